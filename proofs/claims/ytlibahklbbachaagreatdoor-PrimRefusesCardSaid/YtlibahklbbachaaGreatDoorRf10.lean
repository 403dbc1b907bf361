import Derived.Test.YtlibahklbbachaaGreatDoorRf9
set_option autoImplicit false
set_option maxRecDepth 100000
set_option linter.unusedSimpArgs false
set_option linter.unusedVariables false
section
namespace Go.Am.Sto
open Go Go.Am Go.Proofs
/-! ## What is known -/
def X1 : Known := (((((Known.none.add 83 (methX F83)).add 92 (methX F92)).add 79 (methX F79)).add 25 (methX F25)).add 142 (methX F142)).add 38 (methX F38)
def Y1 {β : Type} : KnownK β := (((((KnownK.none.add 83 (methK F83)).add 92 (methK F92)).add 79 (methK F79)).add 25 (methK F25)).add 142 (methK F142)).add 38 (methK F38)
theorem kX1 : KnownOk Tryz.prog G0 X1 := ((((((KnownOk.none _ _).add k83).add k92).add k79).add k25).add k142').add k38
theorem addK {β : Type} {X : Known} {Y : KnownK β} (hY : KnownKOk X Y) (f : FuncId) (F : Hid → List AV → Option (Bool × AV × Hid)) : KnownKOk (X.add f (methX F)) (Y.add f (methK F)) := by
 intro g q hq
 unfold KnownK.add at hq
 rcases Bool.eq_false_or_eq_true (Nat.beq g f) with hb | hb
 ·rw [cond_of_true hb] at hq
  cases hq
  exact ⟨methX F, by unfold Known.add; rw [cond_of_true hb], methK_le F⟩
 ·rw [cond_of_false hb] at hq
  obtain ⟨h, h1, h2⟩ := hY g q hq
  exact ⟨h, by unfold Known.add; rw [cond_of_false hb]; exact h1, h2⟩
theorem kY1 {β : Type} : KnownKOk X1 (Y1 : KnownK β) := addK (addK (addK (addK (addK (addK (KnownKOk.none _) 83 F83) 92 F92) 79 F79) 25 F25) 142 F142) 38 F38
/-! ## The elements of a list -/
def D86 : Live := fun i => match i with | 0 => .pack [0, 3, 6, 7] | _ => .all
abbrev R := AV × Hid
def L86 (P : Program) (rounds : Nat) : T → St → Option R := runLoop P G0 X1 Y1 5 8 D86 Res.meth? 1000 86 (.pack [0, 3, 6, 7]) 2 rounds
def rowE (t n : Int) : Row := { vals := [.int .i64 t, .int .i64 n], root := 1, pos := 0, ep := 0, fep := 0, ext := 2, solo := true, ty := 29 }
def stE0 (d : Hid) (t n : Int) : St := ⟨2, (Tr.nil.set 0 (.hid d)).set 1 (.row (rowE t n))⟩
def stE1 (d : Hid) (t n : Int) (C : List AV) : St := ⟨3, ((Tr.nil.set 0 (.hid d)).set 1 (.row (rowE t n))).set 2 (.row (rowB 2 29 C))⟩
def tE (u out : AV) (room : Int) : T := tOf 49 [(0, .ptrL [.hptr 0, u] 0), (3, .ptr 1 0), (6, out), (7, .int .i64 room)]
theorem start86 (d : Hid) (u : AV) (t n : Int) : bodyY Tryz.prog G0 X1 Y1 5 8 D86 Res.meth? 1000 Tryz.prog.funcs[86]? [.ptrL [.hptr 0, u] 0, val t n] (St.one d) = L86 Tryz.prog 1000 (tE u mt (usedOf d)) (stE0 d t n) := by kernel_rfl
abbrev getO (d : Hid) (t n j : Int) : V2 × Int := getOf d.rows t n j
abbrev vI (p : V2) : List AV := [.int .i64 p.1, .int .i64 p.2]
theorem step86a (N : Nat) (d : Hid) (u : AV) (t n room : Int) : L86 Tryz.prog (N + 1) (tE u mt room) (stE0 d t n) =
  byB (eqI (kindOf d.rows t n) 1) (byB (!leI 0 room) (some (.tup [.lst [] 0 false true, .bool false], d)) (byB (!eqI (getO d t n 0).2 0) none (byB (!eqI (getO d t n 1).2 0) none
   (ifK (AV.under 2 (.ptrL [.hptr 0, u] 0)) (L86 Tryz.prog N (tE u (.sl 2 0 1 2 false) (IntKind.i64.wrap (room - 1))) (stE1 d (getO d t n 1).1.1 (getO d t n 1).1.2 (vI (getO d t n 0).1)))))))
   (ifK (eqI t t && true) (some (.tup [.lst [] 0 false true, .bool (eqI t 0)], d))) := by kernel_rfl
theorem step86b (N : Nat) (d : Hid) (u : AV) (t n room : Int) (k : Nat) (C : List AV) : L86 Tryz.prog (N + 1) (tE u (.sl 2 0 (k + 1) 2 false) room) (stE1 d t n C) =
  byB (eqI (kindOf d.rows t n) 1) (byB (!leI 0 room) (some (.tup [.lst [] 0 false true, .bool false], d)) (byB (!eqI (getO d t n 0).2 0) none (ifK (Nat.ble (k + 1 + 1) 1073741824) (optK (fun old => byB (!eqI (getO d t n 1).2 0) none
   (ifK (AV.under 2 (.ptrL [.hptr 0, u] 0)) (ifK ((bif Nat.ble (1 + C.length) (1 + 0 + (k + 1) * 2) then 0 else 0 + 1).beq (bif Nat.ble (1 + C.length) (1 + 0 + (k + 1) * 2) then 0 else 0 + 1))
    (optK (fun cs => ifK (nonNil cs && AV.plains cs) (L86 Tryz.prog N (tE u (.sl 2 0 (k + 1 + 1) 2 false) (IntKind.i64.wrap (room - 1))) (stE1 d (getO d t n 1).1.1 (getO d t n 1).1.2 cs))) (cutN ((k + 1 + 1) * 2) 0 (old ++ vI (getO d t n 0).1))))))
   (cutN ((k + 1) * 2) 0 C)))))
   (ifK (eqI t t && true) (optK (fun cs => ifK (Nat.blt 0 (k + 1) && AV.flats cs) (some (.tup [.lst cs (k + 1) false false, .bool (eqI t 0)], d))) (cutN ((k + 1) * 2) 0 C))) := by kernel_rfl
end Go.Am.Sto
end
section
namespace Go.Am.Sto
open Go Go.Am Go.Proofs
theorem cellsA_append : ∀ a b : List V2, cellsA (a ++ b) = cellsA a ++ cellsA b
 | [], _ => rfl
 | _ :: a, b => by simp only [List.cons_append, cellsA, cellsA_append a b]
theorem cellsA_cut (l : List V2) (n : Nat) (h : l.length = n) : cutN (n * 2) 0 (cellsA l) = some (cellsA l) := by
 subst h
 have := takeN_all (cellsA l)
 rw [cellsA_len, Nat.mul_comm] at this
 exact this
theorem cellsA_plains : ∀ l : List V2, AV.plains (cellsA l) = true
 | [] => rfl
 | _ :: l => by simp only [cellsA, AV.plains, cellsA_plains l]; rfl
theorem cellsA_flats : ∀ l : List V2, AV.flats (cellsA l) = true
 | [] => rfl
 | _ :: l => by simp only [cellsA, AV.flats, cellsA_flats l]; rfl
theorem cellsA_unders (nb : Nat) : ∀ l : List V2, AV.unders nb (cellsA l) = true
 | [] => rfl
 | _ :: l => by simp only [cellsA, AV.unders, cellsA_unders nb l]; rfl
theorem cellsA_nonNil {l : List V2} (h : l ≠ []) : nonNil (cellsA l) = true := by cases l with | nil => exact absurd rfl h | cons => rfl
theorem cellsA_single : ∀ l : List V2, (cellsA l).all AV.single = true
 | [] => rfl
 | _ :: l => by simp only [cellsA, List.all_cons, cellsA_single l]; rfl
def walk (rows : List Ob) : Nat → Int → V2 → Option (List V2 × V2)
 | 0, _, _ => none
 | f + 1, room, v => match eqI (kindOf rows v.1 v.2) 1, leI 0 room, eqI (getOf rows v.1 v.2 0).2 0, eqI (getOf rows v.1 v.2 1).2 0 with
  | false, _, _, _ => some ([], v)
  | true, true, true, true => match walk rows f (IntKind.i64.wrap (room - 1)) (getOf rows v.1 v.2 1).1 with
   | some p => some ((getOf rows v.1 v.2 0).1 :: p.1, p.2)
   | none => none
  | _, _, _, _ => none
theorem walk_step {rows : List Ob} {f : Nat} {room : Int} {v : V2} {l : List V2} {e : V2} (h : walk rows (f + 1) room v = some (l, e)) :
  (eqI (kindOf rows v.1 v.2) 1 = false ∧ l = [] ∧ e = v) ∨ (eqI (kindOf rows v.1 v.2) 1 = true ∧ leI 0 room = true ∧ eqI (getOf rows v.1 v.2 0).2 0 = true ∧ eqI (getOf rows v.1 v.2 1).2 0 = true ∧
   ∃ l', l = (getOf rows v.1 v.2 0).1 :: l' ∧ walk rows f (IntKind.i64.wrap (room - 1)) (getOf rows v.1 v.2 1).1 = some (l', e)) := by
 simp only [walk] at h
 split at h
 ·rename_i h1; cases h; exact .inl ⟨h1, rfl, rfl⟩
 ·rename_i h1 h2 h3 h4
  split at h
  ·rename_i p hp
   cases h
   exact .inr ⟨h1, h2, h3, h4, p.1, rfl, hp⟩
  ·cases h
 ·cases h
theorem main86b (d : Hid) (u : AV) (hu : AV.under 2 (.ptrL [.hptr 0, u] 0) = true) : ∀ (N : Nat) (room : Int) (v : V2) (l : List V2) (e : V2) (k : Nat) (acc : List V2), walk d.rows N room v = some (l, e) → acc.length = k + 1 → k + N ≤ 1000000 →
  L86 Tryz.prog N (tE u (.sl 2 0 (k + 1) 2 false) room) (stE1 d v.1 v.2 (cellsA acc)) = some (.tup [.lst (cellsA (acc ++ l)) (acc ++ l).length false false, .bool (eqI e.1 0)], d)
 | 0, _, _, _, _, _, _, h, _, _ => by cases h
 | N + 1, room, v, l, e, k, acc, h, hk, hN => by
  rw [step86b, cellsA_cut acc (k + 1) hk]
  rcases walk_step h with ⟨h1, rfl, rfl⟩ | ⟨h1, h2, h3, h4, l', rfl, h5⟩
  ·rw [h1, eqI_self]
   show ifK (Nat.blt 0 (k + 1) && AV.flats (cellsA acc)) _ = _
   rw [cellsA_flats]
   show some (AV.tup [.lst (cellsA acc) (k + 1) false false, .bool (eqI e.1 0)], d) = _
   rw [List.append_nil, hk]
  ·have hb : Nat.ble (k + 1 + 1) 1073741824 = true := Nat.ble_eq_true_of_le (by omega)
   have ih := main86b d u hu N (IntKind.i64.wrap (room - 1)) (getOf d.rows v.1 v.2 1).1 l' e (k + 1) (acc ++ [(getOf d.rows v.1 v.2 0).1]) h5 (by simp [hk]) (by omega)
   rw [h1, h2, h3, h4, hb, hu]
   show ifK (Nat.beq _ _) _ = _
   rw [beq_self']
   show optK _ (cutN ((k + 1 + 1) * 2) 0 (cellsA acc ++ cellsA [(getOf d.rows v.1 v.2 0).1])) = _
   rw [← cellsA_append, cellsA_cut _ (k + 1 + 1) (by simp [hk])]
   show ifK (nonNil (cellsA _) && AV.plains (cellsA _)) _ = _
   rw [cellsA_nonNil (by simp), cellsA_plains]
   show L86 Tryz.prog N _ _ = _
   rw [ih, List.append_assoc]
   rfl
theorem main86a (d : Hid) (u : AV) (hu : AV.under 2 (.ptrL [.hptr 0, u] 0) = true) (N : Nat) (room : Int) (v : V2) (l : List V2) (e : V2) (h : walk d.rows N room v = some (l, e)) (hN : N ≤ 1000) :
  L86 Tryz.prog N (tE u mt room) (stE0 d v.1 v.2) = some (.tup [.lst (cellsA l) l.length false l.isEmpty, .bool (eqI e.1 0)], d) := by
 cases N with
 | zero => cases h
 | succ N =>
  rw [step86a]
  rcases walk_step h with ⟨h1, rfl, rfl⟩ | ⟨h1, h2, h3, h4, l', rfl, h5⟩
  ·rw [h1, eqI_self]; rfl
  ·rw [h1, h2, h3, h4, hu]
   show L86 Tryz.prog N _ (stE1 d _ _ (cellsA [(getOf d.rows v.1 v.2 0).1])) = _
   rw [main86b d u hu N _ _ l' e 0 [(getOf d.rows v.1 v.2 0).1] h5 rfl (by omega)]
   rfl
def elemsO (d : Hid) (t n : Int) : Option (List V2 × V2) := walk d.rows 1000 (usedOf d) (t, n)
def elems (d : Hid) (t n : Int) : List V2 × V2 := match elemsO d t n with | some p => p | none => ([], (0, 0))
def lstA (l : List V2) : AV := .lst (cellsA l) l.length false l.isEmpty
def F86 (d : Hid) : List AV → Option (Bool × AV × Hid)
 | [.ptrL [.hptr 0, u] 0, .agg [.int .i64 t, .int .i64 n]] => some ((elemsO d t n).isSome && AV.under 2 (.ptrL [.hptr 0, u] 0), .tup [lstA (elems d t n).1, .bool (eqI (elems d t n).2.1 0)], d)
 | _ => none
theorem k86 : MethOk Tryz.prog G0 86 F86 := meth_known (D := D86) (m := 1000) (loops := 5) (n := 8) hm hn G0_plain kX1 kY1 fun d ar x d' hF => by
 unfold F86 at hF
 split at hF
 ·rename_i u t n
  simp only [Option.some.injEq, Prod.mk.injEq, Bool.and_eq_true] at hF
  obtain ⟨⟨h1, h2⟩, rfl, rfl⟩ := hF
  rw [start86]
  cases he : elemsO d t n with
  | none => rw [he] at h1; cases h1
  | some p =>
   have := main86a d u h2 1000 (usedOf d) (t, n) p.1 p.2 he (by omega)
   rw [this, elems, he]
   rfl
 ·cases hF
end Go.Am.Sto
end
section
namespace Go.Am.Sto
open Go Go.Am Go.Proofs
def D84 : Live := fun i => match i with | 0 => .pack [0, 1, 5, 6, 7, 8] | _ => .all
def L84 (P : Program) (rounds : Nat) : T → St → Option R := runLoop P G0 X1 Y1 5 8 D84 Res.meth? 1000 84 (.pack [0, 1, 5, 6, 7, 8]) 3 rounds
def rowN (r : Nat) (t n : Int) : Row := { vals := [.int .i64 t, .int .i64 n], root := r, pos := 0, ep := 0, fep := 0, ext := 2, solo := true, ty := 29 }
def stL (d : Hid) (t n : Int) : St := ⟨3, ((Tr.nil.set 0 (.hid d)).set 1 (.row (rowN 1 t n))).set 2 (.row (rowN 2 0 0))⟩
def tL (l : AV) (i : Int) : T := tOf 35 [(0, .hptr 0), (1, l), (5, .ptr 1 0), (6, .ptr 2 0), (7, .int .i64 0), (8, .int .i64 i)]
theorem start84 (d : Hid) (cs : List AV) (m : Nat) (tt nl : Bool) (t n : Int) : bodyY Tryz.prog G0 X1 Y1 5 8 D84 Res.meth? 1000 Tryz.prog.funcs[84]? [.hptr 0, .lst cs m tt nl, val t n] (St.one d) = L84 Tryz.prog 1000 (tL (.lst cs m tt nl) (IntKind.i64.wrap (.ofNat m - 1))) (stL d t n) := by kernel_rfl
theorem end84 (N : Nat) (d : Hid) (l : AV) (t n : Int) : L84 Tryz.prog (N + 1) (tL l (-1)) (stL d t n) = some (.tup [.agg [.int .i64 t, .int .i64 n], .int .i64 0], d) := by kernel_rfl
abbrev mk2 (d : Hid) (a b t n : Int) : (V2 × Int) × Hid := mkOf d 1 [(a, b), (t, n)]
theorem step84 (N : Nat) (d : Hid) (cs : List AV) (m j : Nat) (tt nl : Bool) (t n : Int) : L84 Tryz.prog (N + 1) (tL (.lst cs m tt nl) (.ofNat j)) (stL d t n) =
  ifK (Nat.blt j m && nonNil cs) (opt2 (fun a b => byB (!eqI (mk2 d a b t n).1.2 0) (some (.tup [.agg [.int .i64 0, .int .i64 0], .int .i64 (mk2 d a b t n).1.2], (mk2 d a b t n).2))
   (ifK (AV.under 3 (.lst cs m tt nl)) (L84 Tryz.prog N (tL (.lst cs m tt nl) (IntKind.i64.wrap (.ofNat j - 1))) (stL (mk2 d a b t n).2 (mk2 d a b t n).1.1.1 (mk2 d a b t n).1.1.2)))) (cutN 2 (j * 2) cs)) := by kernel_rfl
def downOf (l : List V2) : Nat → Hid → V2 → (V2 × Int) × Hid
 | 0, d, e => ((e, 0), d)
 | j + 1, d, e => match l[j]? with
  | some v => byB (!eqI (mkOf d 1 [v, e]).1.2 0) (((0, 0), (mkOf d 1 [v, e]).1.2), (mkOf d 1 [v, e]).2) (downOf l j (mkOf d 1 [v, e]).2 (mkOf d 1 [v, e]).1.1)
  | none => ((e, 0), d)
def ofCells : List AV → List V2
 | .int .i64 a :: .int .i64 b :: r => (a, b) :: ofCells r
 | _ => []
def isCells : List AV → Nat → Bool
 | [], 0 => true
 | .int .i64 _ :: .int .i64 _ :: r, m + 1 => isCells r m
 | _, _ => false
theorem ofCells_cells : ∀ l : List V2, ofCells (cellsA l) = l
 | [] => rfl
 | _ :: l => by simp only [cellsA, ofCells, ofCells_cells l]
theorem isCells_cells : ∀ l : List V2, isCells (cellsA l) l.length = true
 | [] => rfl
 | _ :: l => isCells_cells l
theorem isCells_eq : ∀ {cs : List AV} {m : Nat}, isCells cs m = true → cs = cellsA (ofCells cs) ∧ (ofCells cs).length = m
 | [], 0, _ => ⟨rfl, rfl⟩
 | .int .i64 a :: .int .i64 b :: r, m + 1, h => by
  obtain ⟨h1, h2⟩ := isCells_eq (cs := r) (m := m) h
  exact ⟨by simp only [ofCells, cellsA]; rw [← h1], by simp only [ofCells, List.length_cons, h2]⟩
 | [], m + 1, h => by simp [isCells] at h
 | .int .i64 a :: .int .i64 b :: r, 0, h => by simp [isCells] at h
theorem main84 (l : List V2) (tt nl : Bool) : ∀ (j N : Nat) (d : Hid) (e : V2), j < N → j ≤ l.length → N ≤ 1000 →
  L84 Tryz.prog N (tL (.lst (cellsA l) l.length tt nl) (IntKind.i64.wrap (.ofNat j - 1))) (stL d e.1 e.2) = some (getV (downOf l j d e).1, (downOf l j d e).2)
 | 0, N + 1, d, e, _, _, _ => end84 N d _ e.1 e.2
 | j + 1, N + 1, d, e, h1, h2, h3 => by
  have hi : IntKind.i64.wrap (Int.ofNat (j + 1) - 1) = Int.ofNat j := by
   rw [wrap64 (by simp only [Int.ofNat_eq_natCast]; omega) (by simp only [Int.ofNat_eq_natCast]; omega)]
   simp only [Int.ofNat_eq_natCast]; omega
  have hlt : j < l.length := by omega
  obtain ⟨c1, c2⟩ := cells_cut l j _ (List.getElem?_eq_getElem hlt)
  have hb : Nat.blt j l.length = true := Nat.ble_eq_true_of_le hlt
  rw [hi, step84, c1, c2, hb]
  show byB (!eqI (mkOf d 1 [l[j], e]).1.2 0) _ (ifK (AV.unders 3 (cellsA l)) (L84 Tryz.prog N (tL _ (IntKind.i64.wrap (.ofNat j - 1))) (stL (mkOf d 1 [l[j], e]).2 (mkOf d 1 [l[j], e]).1.1.1 (mkOf d 1 [l[j], e]).1.1.2))) = _
  rw [cellsA_unders]
  have ih := main84 l tt nl j N (mkOf d 1 [l[j], e]).2 (mkOf d 1 [l[j], e]).1.1 (by omega) (by omega) (by omega)
  show byB _ _ (L84 Tryz.prog N _ _) = _
  rw [ih]
  simp only [downOf, List.getElem?_eq_getElem hlt]
  cases eqI (mkOf d 1 [l[j], e]).1.2 0 <;> rfl
def F84 (d : Hid) : List AV → Option (Bool × AV × Hid)
 | [.hptr 0, .lst cs m _ _, .agg [.int .i64 t, .int .i64 n]] => some (isCells cs m && Nat.ble m 900, getV (downOf (ofCells cs) m d (t, n)).1, (downOf (ofCells cs) m d (t, n)).2)
 | _ => none
theorem k84 : MethOk Tryz.prog G0 84 F84 := meth_known (D := D84) (m := 1000) (loops := 5) (n := 8) hm hn G0_plain kX1 kY1 fun d ar x d' hF => by
 unfold F84 at hF
 split at hF
 ·rename_i cs m tt nl t n
  simp only [Option.some.injEq, Prod.mk.injEq, Bool.and_eq_true] at hF
  obtain ⟨⟨h1, h2⟩, rfl, rfl⟩ := hF
  obtain ⟨h3, h4⟩ := isCells_eq h1
  have hm9 : m ≤ 900 := Nat.le_of_ble_eq_true h2
  rw [start84]
  have := main84 (ofCells cs) tt nl m 1000 d (t, n) (by omega) (by omega) (by omega)
  rw [← h3, h4] at this
  exact this
 ·cases hF
end Go.Am.Sto
end
section
namespace Go.Am.Sto
open Go Go.Am Go.Proofs
def D41 : Live := fun i => match i with | 0 => .pack [0, 1, 7, 8] | _ => .all
def L41 (P : Program) (rounds : Nat) : T → St → Option R := runLoop P G0 X1 Y1 5 8 D41 Res.meth? 1000 41 (.pack [0, 1, 7, 8]) 1 rounds
abbrev ask24 : AV := .fn (.func 24) [] [.ptrL [.hptr 0] 0]
def tI (l : AV) (m : Nat) (i : Int) : T := tOf 19 [(0, l), (1, ask24), (7, .int .i64 (.ofNat m)), (8, .int .i64 i)]
theorem start41 (d : Hid) (cs : List AV) (m : Nat) (tt nl : Bool) : bodyY Tryz.prog G0 X1 Y1 5 8 D41 Res.meth? 1000 Tryz.prog.funcs[41]? [.lst cs m tt nl, ask24] (St.one d) = L41 Tryz.prog 1000 (tI (.lst cs m tt nl) m 0) (St.one d) := by kernel_rfl
theorem step41 (N : Nat) (d : Hid) (cs : List AV) (m i : Nat) (tt nl : Bool) : L41 Tryz.prog (N + 1) (tI (.lst cs m tt nl) m (.ofNat i)) (St.one d) =
  byB (!leI (.ofNat m) (.ofNat i)) (ifK (Nat.blt i m && nonNil cs) (opt2 (fun a b => byB (sndB d.rows.length a b) (ifK (AV.under 1 (.lst cs m tt nl)) (L41 Tryz.prog N (tI (.lst cs m tt nl) m (IntKind.i64.wrap (.ofNat i + 1))) (St.one d))) (some (.int .i64 (.ofNat i), d))) (cutN 2 (i * 2) cs)))
   (some (.int .i64 (-1), d)) := by kernel_rfl
theorem main41 (d : Hid) (l : List V2) (tt nl : Bool) (h : okAll d.rows.length l = true) : ∀ (N i : Nat), l.length < i + N → i ≤ l.length → l.length ≤ 100000 → L41 Tryz.prog N (tI (.lst (cellsA l) l.length tt nl) l.length (.ofNat i)) (St.one d) = some (.int .i64 (-1), d)
 | 0, i, h1, h2, _ => absurd h1 (by omega)
 | N + 1, i, h1, h2, h3 => by
  rw [step41, leN]
  rcases Nat.lt_or_ge i l.length with hlt | hge
  ·obtain ⟨c1, c2⟩ := cells_cut l i _ (List.getElem?_eq_getElem hlt)
   have hb : Nat.blt i l.length = true := Nat.ble_eq_true_of_le hlt
   have hb2 : Nat.ble l.length i = false := by
    cases hx : Nat.ble l.length i with
    | false => rfl
    | true => have := Nat.le_of_ble_eq_true hx; omega
   have hs : sndB d.rows.length (l[i]).1 (l[i]).2 = true := List.all_eq_true.1 h _ (List.getElem_mem hlt)
   have hi : IntKind.i64.wrap (Int.ofNat i + 1) = Int.ofNat (i + 1) := by
    rw [wrap64 (by simp only [Int.ofNat_eq_natCast]; omega) (by simp only [Int.ofNat_eq_natCast]; omega)]
    rfl
   rw [hb2, c1, c2, hb]
   show byB (sndB d.rows.length (l[i]).1 (l[i]).2) (ifK (AV.unders 1 (cellsA l)) (L41 Tryz.prog N (tI _ _ (IntKind.i64.wrap (Int.ofNat i + 1))) _)) _ = _
   rw [hs, cellsA_unders, hi]
   exact main41 d l tt nl h N (i + 1) (by omega) (by omega) h3
  ·have : i = l.length := by omega
   subst this
   rw [Nat.ble_eq_true_of_le (Nat.le_refl _)]
   rfl
def F41 (d : Hid) : List AV → Option (Bool × AV × Hid)
 | [.lst cs m _ _, .fn (.func 24) [] [.ptrL [.hptr 0] 0]] => some (isCells cs m && (Nat.ble m 900 && okAll d.rows.length (ofCells cs)), .int .i64 (-1), d)
 | _ => none
theorem k41 : MethOk Tryz.prog G0 41 F41 := meth_known (D := D41) (m := 1000) (loops := 5) (n := 8) hm hn G0_plain kX1 kY1 fun d ar x d' hF => by
 unfold F41 at hF
 split at hF
 ·rename_i cs m tt nl
  simp only [Option.some.injEq, Prod.mk.injEq, Bool.and_eq_true] at hF
  obtain ⟨⟨h1, h2, h5⟩, rfl, rfl⟩ := hF
  obtain ⟨h3, h4⟩ := isCells_eq h1
  have hm9 : m ≤ 900 := Nat.le_of_ble_eq_true h2
  rw [start41]
  have := main41 d (ofCells cs) tt nl h5 1000 0 (by omega) (by omega) (by omega)
  rw [← h3, h4] at this
  exact this
 ·cases hF
/-! ## What stands in an object's slots -/
def D93 : Live := fun i => match i with | 0 => .pack [0, 3, 5, 12, 13] | _ => .all
def L93 (P : Program) (rounds : Nat) : T → St → Option R := runLoop P G0 X1 Y1 5 8 D93 Res.meth? 1000 93 (.pack [0, 3, 5, 12, 13]) 2 rounds
def tS (u out : AV) (len i : Int) : T := tOf 31 [(0, .ptrL [.hptr 0, u] 0), (3, .ptr 1 0), (5, out), (12, .int .i64 len), (13, .int .i64 i)]
theorem start93 (d : Hid) (u : AV) (t n : Int) : bodyY Tryz.prog G0 X1 Y1 5 8 D93 Res.meth? 1000 Tryz.prog.funcs[93]? [.ptrL [.hptr 0, u] 0, val t n] (St.one d) = L93 Tryz.prog 1000 (tS u mt (lenOf d.rows t n) 0) (stE0 d t n) := by kernel_rfl
theorem step93a (N : Nat) (d : Hid) (u : AV) (t n len i : Int) : L93 Tryz.prog (N + 1) (tS u mt len i) (stE0 d t n) =
  byB (!leI len i) (byB (!eqI (getO d t n i).2 0) none (ifK (AV.under 2 (.ptrL [.hptr 0, u] 0)) (L93 Tryz.prog N (tS u (.sl 2 0 1 2 false) len (IntKind.i64.wrap (i + 1))) (stE1 d t n (vI (getO d t n i).1)))))
   (some (.lst [] 0 false true, d)) := by kernel_rfl
theorem step93b (N : Nat) (d : Hid) (u : AV) (t n len i : Int) (k : Nat) (C : List AV) : L93 Tryz.prog (N + 1) (tS u (.sl 2 0 (k + 1) 2 false) len i) (stE1 d t n C) =
  byB (!leI len i) (byB (!eqI (getO d t n i).2 0) none (ifK (Nat.ble (k + 1 + 1) 1073741824) (optK (fun old => ifK (AV.under 2 (.ptrL [.hptr 0, u] 0)) (ifK ((bif Nat.ble (1 + C.length) (1 + 0 + (k + 1) * 2) then 0 else 0 + 1).beq (bif Nat.ble (1 + C.length) (1 + 0 + (k + 1) * 2) then 0 else 0 + 1))
    (optK (fun cs => ifK (nonNil cs && AV.plains cs) (L93 Tryz.prog N (tS u (.sl 2 0 (k + 1 + 1) 2 false) len (IntKind.i64.wrap (i + 1))) (stE1 d t n cs))) (cutN ((k + 1 + 1) * 2) 0 (old ++ vI (getO d t n i).1)))))
   (cutN ((k + 1) * 2) 0 C))))
   (optK (fun cs => ifK (Nat.blt 0 (k + 1) && AV.flats cs) (some (.lst cs (k + 1) false false, d))) (cutN ((k + 1) * 2) 0 C)) := by kernel_rfl
def slotsO (d : Hid) (t n : Int) : List V2 := match objAt d.rows t n with | some o => o.2 | none => []
theorem main93b (d : Hid) (u : AV) (t n : Int) (o : Ob) (ho : objAt d.rows t n = some o) (hu : AV.under 2 (.ptrL [.hptr 0, u] 0) = true) : ∀ (N k : Nat) (acc rest : List V2), o.2 = acc ++ rest → acc.length = k + 1 → rest.length < N → o.2.length ≤ 100000 →
  L93 Tryz.prog N (tS u (.sl 2 0 (k + 1) 2 false) (.ofNat o.2.length) (.ofNat (k + 1))) (stE1 d t n (cellsA acc)) = some (.lst (cellsA o.2) o.2.length false false, d)
 | 0, _, _, _, _, _, h, _ => absurd h (by omega)
 | N + 1, k, acc, rest, h1, h2, h3, h4 => by
  have hlen : o.2.length = k + 1 + rest.length := by rw [h1, List.length_append, h2]
  rw [step93b, cellsA_cut acc (k + 1) h2, leN]
  cases rest with
  | nil =>
   rw [List.append_nil] at h1
   rw [List.length_nil] at hlen
   rw [Nat.ble_eq_true_of_le (by omega)]
   show ifK (Nat.blt 0 (k + 1) && AV.flats (cellsA acc)) _ = _
   rw [cellsA_flats, h1, h2]
   rfl
  | cons v rest =>
   rw [List.length_cons] at hlen h3
   have hb : Nat.ble (k + 1 + 1) 1073741824 = true := Nat.ble_eq_true_of_le (by omega)
   have hb2 : Nat.ble o.2.length (k + 1) = false := by
    cases hx : Nat.ble o.2.length (k + 1) with
    | false => rfl
    | true => have := Nat.le_of_ble_eq_true hx; omega
   have hg : getO d t n (.ofNat (k + 1)) = (v, 0) := by
    unfold getO getOf
    rw [ho]
    have : o.2[k + 1]? = some v := by rw [h1, List.getElem?_append_right (by omega), h2, Nat.sub_self]; rfl
    simp only [this]
   have hi : IntKind.i64.wrap (Int.ofNat (k + 1) + 1) = Int.ofNat (k + 1 + 1) := by
    rw [wrap64 (by simp only [Int.ofNat_eq_natCast]; omega) (by simp only [Int.ofNat_eq_natCast]; omega)]
    rfl
   rw [hb, hb2, hg, hu, hi]
   show ifK (Nat.beq _ _) _ = _
   rw [beq_self']
   show optK _ (cutN ((k + 1 + 1) * 2) 0 (cellsA acc ++ cellsA [v])) = _
   rw [← cellsA_append, cellsA_cut _ (k + 1 + 1) (by simp [h2])]
   show ifK (nonNil (cellsA _) && AV.plains (cellsA _)) _ = _
   rw [cellsA_nonNil (by simp), cellsA_plains]
   exact main93b d u t n o ho hu N (k + 1) (acc ++ [v]) rest (by rw [h1, List.append_assoc]; rfl) (by simp [h2]) (by omega) h4
def F93 (d : Hid) : List AV → Option (Bool × AV × Hid)
 | [.ptrL [.hptr 0, u] 0, .agg [.int .i64 t, .int .i64 n]] => some (Nat.ble (slotsO d t n).length 900 && AV.under 2 (.ptrL [.hptr 0, u] 0), lstA (slotsO d t n), d)
 | _ => none
theorem k93 : MethOk Tryz.prog G0 93 F93 := meth_known (D := D93) (m := 1000) (loops := 5) (n := 8) hm hn G0_plain kX1 kY1 fun d ar x d' hF => by
 unfold F93 at hF
 split at hF
 ·rename_i u t n
  simp only [Option.some.injEq, Prod.mk.injEq, Bool.and_eq_true] at hF
  obtain ⟨⟨h1, hu⟩, rfl, rfl⟩ := hF
  have hm9 := Nat.le_of_ble_eq_true h1
  rw [start93, step93a]
  unfold slotsO at hm9 ⊢
  unfold lenOf
  cases ho : objAt d.rows t n with
  | none => rfl
  | some o =>
   rw [ho] at hm9
   cases hl : o.2 with
   | nil => simp only [hl]; rfl
   | cons v rest =>
    have hg : getO d t n 0 = (v, 0) := by
     show getOf d.rows t n (.ofNat 0) = _
     unfold getOf
     rw [ho]
     simp only [hl, List.getElem?_cons_zero]
    have hlt : leI (.ofNat (v :: rest).length) 0 = false := leI_f (by simp only [Int.ofNat_eq_natCast, List.length_cons]; omega)
    simp only [hl]
    rw [hlt, hg, hu]
    have hm9 : o.2.length ≤ 900 := hm9
    rw [hl, List.length_cons] at hm9
    have := main93b d u t n o ho hu 999 0 [v] rest (by rw [hl]; rfl) rfl (by omega) (by rw [hl, List.length_cons]; omega)
    rw [hl] at this
    exact this
 ·cases hF
end Go.Am.Sto
end
section
namespace Go.Am.Sto
open Go Go.Am Go.Proofs
def D41v : Live := fun i => match i with | 0 => .pack [0, 1, 7, 8] | _ => .all
def L41v (P : Program) (rounds : Nat) : T → St → Option AV := runLoop P G0 XS YS 5 8 D41v Res.val? 1000 41 (.pack [0, 1, 7, 8]) 0 rounds
abbrev stoV (L U : Int) (os : List AV) (n : Nat) (g1 g2 : Bool) : AV := .ptrL [.int .i64 L, .int .i64 U, .lst os n g1 g2, mt, .undef] 0
abbrev ask62 (p : AV) : AV := .fn (.func 62) [] [.ptrL [p] 0]
def tIv (l f : AV) (m : Nat) (i : Int) : T := tOf 19 [(0, l), (1, f), (7, .int .i64 (.ofNat m)), (8, .int .i64 i)]
section
variable (L U : Int) (os cs : List AV) (m i : Nat) (g1 g2 tt nl : Bool) (o1 : AV)
theorem start41v (n : Nat) : bodyY Tryz.prog G0 XS YS 5 8 D41v Res.val? 1000 Tryz.prog.funcs[41]? [.lst cs m tt nl, ask62 (stoV L U os n g1 g2)] St.empty = L41v Tryz.prog 1000 (tIv (.lst cs m tt nl) (ask62 (stoV L U os n g1 g2)) m 0) St.empty := by kernel_rfl
theorem step41v0 (N : Nat) : L41v Tryz.prog (N + 1) (tIv (.lst cs m tt nl) (ask62 (stoV L U os 0 g1 g2)) m (.ofNat i)) St.empty =
  byB (!leI (.ofNat m) (.ofNat i)) (ifK (Nat.blt i m && nonNil cs) (opt2 (fun a b => ifK (AV.plain (stoV L U os 0 g1 g2)) (byB (sndB 0 a b) (ifK (AV.under 0 (.lst cs m tt nl)) (ifK (AV.under 0 (ask62 (stoV L U os 0 g1 g2))) (L41v Tryz.prog N (tIv (.lst cs m tt nl) (ask62 (stoV L U os 0 g1 g2)) m (IntKind.i64.wrap (.ofNat i + 1))) St.empty))) (some (.int .i64 (.ofNat i))))) (cutN 2 (i * 2) cs)))
   (some (.int .i64 (-1))) := by kernel_rfl
theorem step41v1 (N n : Nat) : L41v Tryz.prog (N + 1) (tIv (.lst cs m tt nl) (ask62 (stoV L U (o1 :: os) (n + 1) g1 g2)) m (.ofNat i)) St.empty =
  byB (!leI (.ofNat m) (.ofNat i)) (ifK (Nat.blt i m && nonNil cs) (opt2 (fun a b => ifK (AV.plain (stoV L U (o1 :: os) (n + 1) g1 g2)) (byB (sndB (n + 1) a b) (ifK (AV.under 0 (.lst cs m tt nl)) (ifK (AV.under 0 (ask62 (stoV L U (o1 :: os) (n + 1) g1 g2))) (L41v Tryz.prog N (tIv (.lst cs m tt nl) (ask62 (stoV L U (o1 :: os) (n + 1) g1 g2)) m (IntKind.i64.wrap (.ofNat i + 1))) St.empty))) (some (.int .i64 (.ofNat i))))) (cutN 2 (i * 2) cs)))
   (some (.int .i64 (-1))) := by kernel_rfl
end
theorem main41v (L U : Int) (os : List AV) (n : Nat) (g1 g2 : Bool) (hos : n = 0 ∨ ∃ m o r, n = m + 1 ∧ os = o :: r) (l : List V2) (tt nl : Bool) (h : okAll n l = true) (hu : AV.under 0 (ask62 (stoV L U os n g1 g2)) = true) (hp : AV.plain (stoV L U os n g1 g2) = true) : ∀ (N i : Nat), l.length < i + N → i ≤ l.length → l.length ≤ 100000 →
  L41v Tryz.prog N (tIv (.lst (cellsA l) l.length tt nl) (ask62 (stoV L U os n g1 g2)) l.length (.ofNat i)) St.empty = some (.int .i64 (-1))
 | 0, i, h1, h2, _ => absurd h1 (by omega)
 | N + 1, i, h1, h2, h3 => by
  have step : L41v Tryz.prog (N + 1) (tIv (.lst (cellsA l) l.length tt nl) (ask62 (stoV L U os n g1 g2)) l.length (.ofNat i)) St.empty =
   byB (!leI (.ofNat l.length) (.ofNat i)) (ifK (Nat.blt i l.length && nonNil (cellsA l)) (opt2 (fun a b => ifK (AV.plain (stoV L U os n g1 g2)) (byB (sndB n a b) (ifK (AV.under 0 (.lst (cellsA l) l.length tt nl)) (ifK (AV.under 0 (ask62 (stoV L U os n g1 g2))) (L41v Tryz.prog N (tIv (.lst (cellsA l) l.length tt nl) (ask62 (stoV L U os n g1 g2)) l.length (IntKind.i64.wrap (.ofNat i + 1))) St.empty))) (some (.int .i64 (.ofNat i))))) (cutN 2 (i * 2) (cellsA l))))
   (some (.int .i64 (-1))) := by
   rcases hos with rfl | ⟨m, o, r, rfl, rfl⟩
   ·exact step41v0 L U os _ _ i g1 g2 tt nl N
   ·exact step41v1 L U r _ _ i g1 g2 tt nl o N m
  rw [step, leN, hu, hp]
  rcases Nat.lt_or_ge i l.length with hlt | hge
  ·obtain ⟨c1, c2⟩ := cells_cut l i _ (List.getElem?_eq_getElem hlt)
   have hb : Nat.blt i l.length = true := Nat.ble_eq_true_of_le hlt
   have hb2 : Nat.ble l.length i = false := by
    cases hx : Nat.ble l.length i with
    | false => rfl
    | true => have := Nat.le_of_ble_eq_true hx; omega
   have hs : sndB n (l[i]).1 (l[i]).2 = true := List.all_eq_true.1 h _ (List.getElem_mem hlt)
   have hi : IntKind.i64.wrap (Int.ofNat i + 1) = Int.ofNat (i + 1) := by
    rw [wrap64 (by simp only [Int.ofNat_eq_natCast]; omega) (by simp only [Int.ofNat_eq_natCast]; omega)]
    rfl
   rw [hb2, c1, c2, hb]
   show byB (sndB n (l[i]).1 (l[i]).2) (ifK (AV.unders 0 (cellsA l)) (L41v Tryz.prog N (tIv _ _ _ (IntKind.i64.wrap (Int.ofNat i + 1))) _)) _ = _
   rw [hs, cellsA_unders, hi]
   exact main41v L U os n g1 g2 hos l tt nl h hu hp N (i + 1) (by omega) (by omega) h3
  ·have : i = l.length := by omega
   subst this
   rw [Nat.ble_eq_true_of_le (Nat.le_refl _)]
   rfl
def F41v : List AV → Option (Bool × AV)
 | [.lst cs m _ _, .fn (.func 62) [] [.ptrL [.ptrL [.int .i64 L, .int .i64 U, .lst os n g1 g2, .lst [] 0 true true, .undef] 0] 0]] => match n, os with
  | 0, os => some (isCells cs m && (Nat.ble m 900 && (okAll 0 (ofCells cs) && (AV.under 0 (ask62 (stoV L U os 0 g1 g2)) && AV.plain (stoV L U os 0 g1 g2)))), .int .i64 (-1))
  | n + 1, o :: os => some (isCells cs m && (Nat.ble m 900 && (okAll (n + 1) (ofCells cs) && (AV.under 0 (ask62 (stoV L U (o :: os) (n + 1) g1 g2)) && AV.plain (stoV L U (o :: os) (n + 1) g1 g2)))), .int .i64 (-1))
  | _, _ => none
 | _ => none
theorem k41v : ViewOk Tryz.prog G0 41 F41v := view_known (D := D41v) (m := 1000) (loops := 5) (n := 8) hm hn G0_plain kXS kYS fun ar x hF => by
 unfold F41v at hF
 split at hF
 ·rename_i cs m tt nl L U os n g1 g2
  have fin : ∀ (os : List AV) (n : Nat), (n = 0 ∨ ∃ m o r, n = m + 1 ∧ os = o :: r) → isCells cs m = true ∧ Nat.ble m 900 = true ∧ okAll n (ofCells cs) = true ∧ AV.under 0 (ask62 (stoV L U os n g1 g2)) = true ∧ AV.plain (stoV L U os n g1 g2) = true →
    bodyY Tryz.prog G0 XS YS 5 8 D41v Res.val? 1000 Tryz.prog.funcs[41]? [.lst cs m tt nl, ask62 (stoV L U os n g1 g2)] St.empty = some (.int .i64 (-1)) := fun os n hos ⟨h1, h2, h5, h6, h7⟩ => by
   obtain ⟨h3, h4⟩ := isCells_eq h1
   have hm9 : m ≤ 900 := Nat.le_of_ble_eq_true h2
   rw [start41v]
   have := main41v L U os n g1 g2 hos (ofCells cs) tt nl h5 h6 h7 1000 0 (by omega) (by omega) (by omega)
   rw [← h3, h4] at this
   exact this
  split at hF
  ·simp only [Option.some.injEq, Prod.mk.injEq, Bool.and_eq_true] at hF
   obtain ⟨h1, rfl⟩ := hF
   exact ⟨rfl, fin _ 0 (.inl rfl) h1⟩
  ·simp only [Option.some.injEq, Prod.mk.injEq, Bool.and_eq_true] at hF
   obtain ⟨h1, rfl⟩ := hF
   exact ⟨rfl, fin _ _ (.inr ⟨_, _, _, rfl, rfl⟩) h1⟩
  ·cases hF
 ·cases hF
end Go.Am.Sto
end
section
namespace Go.Am.Sto
open Go Go.Am Go.Proofs
def XS2 : Known := XS.add 41 (viewX F41v)
def YS2 {β : Type} : KnownK β := YS.add 41 (viewK F41v)
theorem kXS2 : KnownOk Tryz.prog G0 XS2 := kXS.add k41v
theorem kYS2 {β : Type} : KnownKOk XS2 (YS2 : KnownK β) := by
 intro g q hq
 unfold YS2 KnownK.add at hq
 rcases Bool.eq_false_or_eq_true (Nat.beq g 41) with hb | hb
 ·rw [cond_of_true hb] at hq
  cases hq
  exact ⟨viewX F41v, by unfold XS2 Known.add; rw [cond_of_true hb], viewK_le F41v⟩
 ·rw [cond_of_false hb] at hq
  obtain ⟨h, h1, h2⟩ := (kYS (β := β)) g q hq
  exact ⟨h, by unfold XS2 Known.add; rw [cond_of_false hb]; exact h1, h2⟩
def runVec (P : Program) (j r q : Nat) (l : List (TypeId × List AV)) (slots : AV) : Option (AV × RowI × RowI × RowI × RowI) :=
 bodyY P G0 XS2 YS2 5 8 noLive (mkR j r q) 5 P.funcs[38]? [.ptr 0 0, .int .i64 2, slots] (St.rows l)
abbrev zero2 : List AV := [.int .i64 0, .int .i64 0]
abbrev new2 (n : Int) : List AV := [.int .i64 7, .int .i64 n]
abbrev lastN (n : Nat) : Int := IntKind.i64.wrap ((.ofNat (n + 1 + 1)) - 1)
def stale (x n : Nat) : Bool := Nat.beq 0 (bif Nat.ble (1 + x) (1 + 0 + n * 10) then 0 else 0 + 1)
def preV (cs : List AV) (m n : Nat) (s : AV) : Bool := isCells cs m && (Nat.ble m 900 && (okAll n (ofCells cs) && (AV.under 0 (ask62 s) && AV.plain s)))
section
variable (L U : Int) (tt : Bool) (m : Nat) (cs : List AV) (o : Ob × Value) (rs : List (Ob × Value))
theorem vec00 : runVec Tryz.prog 0 6 4 [(66, sto0 L U)] (.lst [] 0 tt true) =
  ifK (chk1 L U) (byB (full L U 0) (some (errV 16, some (sto0 L U, 66, true), some (sto0 L U, 66, true), none, some (zero2, 29, true)))
   (ifK (chk2 U) (some (objV 0, some (sto1 L (pay U 0) 6 1, 66, true), some (sto1 L (pay U 0) 6 1, 66, true), some (.int .i64 2 :: mt :: rest8, 115, true), some (new2 0, 29, true))))) := by kernel_rfl
theorem vec01 : runVec Tryz.prog 0 8 4 [(66, sto0 L U)] (.lst cs (m + 1) tt false) =
  ifK (AV.plain (.lst cs (m + 1) tt false)) (ifK (preV cs (m + 1) 0 (stoV L U [] 0 true true)) (ifK (Nat.ble (0 + (m + 1)) 1073741824) (optK (fun new => ifK (new.all AV.single)
   (ifK (chk1 L U) (byB (full L U (0 + (m + 1))) (some (errV 16, some (sto0 L U, 66, true), some (sto0 L U, 66, true), none, some (new, 29, true)))
    (ifK (chk2 U) (some (objV 0, some (sto1 L (pay U (0 + (m + 1))) 8 1, 66, true), some (sto1 L (pay U (0 + (m + 1))) 8 1, 66, true), some (.int .i64 2 :: .sl 4 0 (0 + (m + 1)) 2 false :: rest8, 115, true), some (new, 29, true))))))) (takeN ((m + 1) * 2) cs)))) := by kernel_rfl
theorem vec10 : runVec Tryz.prog 1 7 5 [(66, sto1 L U 1 (rs.length + 1)), (115, objsP (o :: rs))] (.lst [] 0 tt true) =
  ifK (preV [] 0 (rs.length + 1) (stoV L U (blurL (objsP (o :: rs))) (rs.length + 1) false false)) (ifK (chk1 L U) (byB (full L U 0) (some (errV 16, some (sto1 L U 1 (rs.length + 1), 66, true), some (objsP (o :: rs), 115, true), none, some (zero2, 29, true)))
   (ifK (chk2 U) (ifK (Nat.ble (rs.length + 1 + 1) 1073741824) (optK (fun old => some (objV (lastN rs.length), some (sto1 L (pay U 0) 7 (rs.length + 1 + 1), 66, true), some (objsP (o :: rs), 115, stale (objsP (o :: rs)).length (rs.length + 1)),
    some (old ++ (.int .i64 2 :: mt :: rest8), 115, fresh1 (objsP (o :: rs)).length (rs.length + 1)), some (new2 (lastN rs.length), 29, true))) (cutN ((rs.length + 1) * 10) 0 (objsP (o :: rs)))))))) := by kernel_rfl
theorem vec11 : runVec Tryz.prog 1 9 5 [(66, sto1 L U 1 (rs.length + 1)), (115, objsP (o :: rs))] (.lst cs (m + 1) tt false) =
  ifK (AV.plain (.lst cs (m + 1) tt false)) (ifK (preV cs (m + 1) (rs.length + 1) (stoV L U (blurL (objsP (o :: rs))) (rs.length + 1) false false)) (ifK (Nat.ble (0 + (m + 1)) 1073741824) (optK (fun new => ifK (new.all AV.single)
   (ifK (chk1 L U) (byB (full L U (0 + (m + 1))) (some (errV 16, some (sto1 L U 1 (rs.length + 1), 66, true), some (objsP (o :: rs), 115, true), none, some (new, 29, true)))
    (ifK (chk2 U) (ifK (Nat.ble (rs.length + 1 + 1) 1073741824) (optK (fun old => some (objV (lastN rs.length), some (sto1 L (pay U (0 + (m + 1))) 9 (rs.length + 1 + 1), 66, true), some (objsP (o :: rs), 115, stale (objsP (o :: rs)).length (rs.length + 1)),
     some (old ++ (.int .i64 2 :: .sl 5 0 (0 + (m + 1)) 2 false :: rest8), 115, fresh1 (objsP (o :: rs)).length (rs.length + 1)), some (new, 29, true))) (cutN ((rs.length + 1) * 10) 0 (objsP (o :: rs))))))))) (takeN ((m + 1) * 2) cs)))) := by kernel_rfl
end
end Go.Am.Sto
end
