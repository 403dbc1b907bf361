import Derived.Test.YtlibahklbbachaaGreatDoorTx10
import Derived.Test.YtlibahklbbachaaGreatDoorTx5
import Derived.Laws.Externs
set_option autoImplicit false
set_option maxRecDepth 100000
set_option linter.unusedSimpArgs false
set_option linter.unusedVariables false
section
namespace Go.Am.Sto
open Go Go.Am Go.Proofs
theorem isSame : ∀ (x : Value) (w : World), (callFunc 209 #[x]).run Tryz.prog w = .ok (.value x) w := fun x w => by
  have hf : Tryz.prog.funcs[209]? = some Tryz.f209 := by kernel_rfl
  rw [run_callFunc_extern hf (by kernel_rfl) (by kernel_rfl) (by kernel_rfl) (e := Extern.AbiNoEscape.same) (by kernel_rfl)]
  rfl
def XN : Known := Known.none.add 209 sameX
theorem kN : KnownOk Tryz.prog G0 XN := (KnownOk.none _ _).add (same_known isSame)
def D9 : Live := noLive
theorem run9 : bodyK Tryz.prog G0 XN 100 100 D9 Res.val? 100 Tryz.prog.funcs[9]? [] St.empty = some (.bool true) := by kernel_rfl
def F9 : List AV → Option AV
  | [] => some (.bool true)
  | _ => none
theorem k9 : ∀ (args : List AV) (s : St) (E : Env) (w : World) (vs : List Value), Rel E s w → GlobOk E G0 w → VRL E args vs → ResOk Tryz.prog E s w 9 vs (pureX F9 args s) := flat_known (D := D9) (m := 100) (loops := 100) (n := 100) (F := F9) hm hn G0_plain kN fun args x h => by
  unfold F9 at h
  split at h
  · cases h; exact ⟨rfl, rfl, run9⟩
  · cases h
end Go.Am.Sto
end
section
namespace Go.Am.Sto
open Go Go.Am Go.Proofs
/-! ## Sound -/
def sndN (neg : Bool) : List AV → Nat → Bool
  | [], 0 => !neg
  | [.int .u32 a], 1 => !eqI a 0 && !leI 1000000000 a
  | [.int .u32 a, .int .u32 b], 2 => !eqI b 0 && (!leI 1000000000 a && !leI 1000000000 b)
  | _, _ => false
/-! ## Noughts -/
def F128 : List AV → Option AV
  | [.str [48], .int .i64 (.ofNat k)] => bif Nat.ble k 8 then some (.str (List.replicate k 48)) else none
  | _ => none
abbrev run128 (P : Program) (k : Int) : Option AV := bodyK P G0 XN 10 12 noLive Res.val? 10 P.funcs[128]? [.str [48], .int .i64 k] St.empty
theorem r0 : run128 Tryz.prog 0 = some (.str (List.replicate 0 48)) := by kernel_rfl
theorem r1 : run128 Tryz.prog 1 = some (.str (List.replicate 1 48)) := by kernel_rfl
theorem r2 : run128 Tryz.prog 2 = some (.str (List.replicate 2 48)) := by kernel_rfl
theorem r3 : run128 Tryz.prog 3 = some (.str (List.replicate 3 48)) := by kernel_rfl
theorem r4 : run128 Tryz.prog 4 = some (.str (List.replicate 4 48)) := by kernel_rfl
theorem r5 : run128 Tryz.prog 5 = some (.str (List.replicate 5 48)) := by kernel_rfl
theorem r6 : run128 Tryz.prog 6 = some (.str (List.replicate 6 48)) := by kernel_rfl
theorem r7 : run128 Tryz.prog 7 = some (.str (List.replicate 7 48)) := by kernel_rfl
theorem r8 : run128 Tryz.prog 8 = some (.str (List.replicate 8 48)) := by kernel_rfl
theorem k128 : ∀ (args : List AV) (s : St) (E : Env) (w : World) (vs : List Value), Rel E s w → GlobOk E G0 w → VRL E args vs → ResOk Tryz.prog E s w 128 vs (pureX F128 args s) := flat_known (D := noLive) (m := 10) (loops := 10) (n := 12) hm hn G0_plain kN fun ar x hF => by
  unfold F128 at hF
  split at hF
  case h_2 => cases hF
  rename_i k
  match k, hF with
  | 0, hF => cases hF; exact ⟨rfl, rfl, r0⟩
  | 1, hF => cases hF; exact ⟨rfl, rfl, r1⟩
  | 2, hF => cases hF; exact ⟨rfl, rfl, r2⟩
  | 3, hF => cases hF; exact ⟨rfl, rfl, r3⟩
  | 4, hF => cases hF; exact ⟨rfl, rfl, r4⟩
  | 5, hF => cases hF; exact ⟨rfl, rfl, r5⟩
  | 6, hF => cases hF; exact ⟨rfl, rfl, r6⟩
  | 7, hF => cases hF; exact ⟨rfl, rfl, r7⟩
  | 8, hF => cases hF; exact ⟨rfl, rfl, r8⟩
  | k + 9, hF => have hF : (none : Option AV) = some x := hF; cases hF
end Go.Am.Sto
end
section
namespace Go.Am.Sto
open Go Go.Am Go.Proofs
theorem cellsA_append : ∀ a b : List V2, cellsA (a ++ b) = cellsA a ++ cellsA b
  | [], _ => rfl
  | _ :: a, b => by simp only [List.cons_append, cellsA, cellsA_append a b]
theorem cellsA_cut (l : List V2) (n : Nat) (h : l.length = n) : cutN (n * 2) 0 (cellsA l) = some (cellsA l) := by
  subst h
  have := takeN_all (cellsA l)
  rw [cellsA_len, Nat.mul_comm] at this
  exact this
theorem cellsA_plains : ∀ l : List V2, AV.plains (cellsA l) = true
  | [] => rfl
  | _ :: l => by simp only [cellsA, AV.plains, cellsA_plains l]; rfl
theorem cellsA_flats : ∀ l : List V2, AV.flats (cellsA l) = true
  | [] => rfl
  | _ :: l => by simp only [cellsA, AV.flats, cellsA_flats l]; rfl
theorem cellsA_unders (nb : Nat) : ∀ l : List V2, AV.unders nb (cellsA l) = true
  | [] => rfl
  | _ :: l => by simp only [cellsA, AV.unders, cellsA_unders nb l]; rfl
theorem cellsA_nonNil {l : List V2} (h : l ≠ []) : nonNil (cellsA l) = true := by cases l with | nil => exact absurd rfl h | cons => rfl
theorem cellsA_single : ∀ l : List V2, (cellsA l).all AV.single = true
  | [] => rfl
  | _ :: l => by simp only [cellsA, List.all_cons, cellsA_single l]; rfl
def walk (rows : List Ob) : Nat → Int → V2 → Option (List V2 × V2)
  | 0, _, _ => none
  | f + 1, room, v => match eqI (kindOf rows v.1 v.2) 1, leI 0 room, eqI (getOf rows v.1 v.2 0).2 0, eqI (getOf rows v.1 v.2 1).2 0 with
    | false, _, _, _ => some ([], v)
    | true, true, true, true => match walk rows f (IntKind.i64.wrap (room - 1)) (getOf rows v.1 v.2 1).1 with
      | some p => some ((getOf rows v.1 v.2 0).1 :: p.1, p.2)
      | none => none
    | _, _, _, _ => none
theorem walk_step {rows : List Ob} {f : Nat} {room : Int} {v : V2} {l : List V2} {e : V2} (h : walk rows (f + 1) room v = some (l, e)) :
    (eqI (kindOf rows v.1 v.2) 1 = false ∧ l = [] ∧ e = v) ∨ (eqI (kindOf rows v.1 v.2) 1 = true ∧ leI 0 room = true ∧ eqI (getOf rows v.1 v.2 0).2 0 = true ∧ eqI (getOf rows v.1 v.2 1).2 0 = true ∧
      ∃ l', l = (getOf rows v.1 v.2 0).1 :: l' ∧ walk rows f (IntKind.i64.wrap (room - 1)) (getOf rows v.1 v.2 1).1 = some (l', e)) := by
  simp only [walk] at h
  split at h
  · rename_i h1; cases h; exact .inl ⟨h1, rfl, rfl⟩
  · rename_i h1 h2 h3 h4
    split at h
    · rename_i p hp
      cases h
      exact .inr ⟨h1, h2, h3, h4, p.1, rfl, hp⟩
    · cases h
  · cases h
theorem main86b (d : Hid) (u : AV) (hu : AV.under 2 (.ptrL [.hptr 0, u] 0) = true) : ∀ (N : Nat) (room : Int) (v : V2) (l : List V2) (e : V2) (k : Nat) (acc : List V2), walk d.rows N room v = some (l, e) → acc.length = k + 1 → k + N ≤ 1000000 →
    L86 Tryz.prog N (tE u (.sl 2 0 (k + 1) 2 false) room) (stE1 d v.1 v.2 (cellsA acc)) = some (.tup [.lst (cellsA (acc ++ l)) (acc ++ l).length false false, .bool (eqI e.1 0)], d)
  | 0, _, _, _, _, _, _, h, _, _ => by cases h
  | N + 1, room, v, l, e, k, acc, h, hk, hN => by
    rw [step86b, cellsA_cut acc (k + 1) hk]
    rcases walk_step h with ⟨h1, rfl, rfl⟩ | ⟨h1, h2, h3, h4, l', rfl, h5⟩
    · rw [h1, eqI_self]
      show ifK (Nat.blt 0 (k + 1) && AV.flats (cellsA acc)) _ = _
      rw [cellsA_flats]
      show some (AV.tup [.lst (cellsA acc) (k + 1) false false, .bool (eqI e.1 0)], d) = _
      rw [List.append_nil, hk]
    · have hb : Nat.ble (k + 1 + 1) 1073741824 = true := Nat.ble_eq_true_of_le (by omega)
      have ih := main86b d u hu N (IntKind.i64.wrap (room - 1)) (getOf d.rows v.1 v.2 1).1 l' e (k + 1) (acc ++ [(getOf d.rows v.1 v.2 0).1]) h5 (by simp [hk]) (by omega)
      rw [h1, h2, h3, h4, hb, hu]
      show ifK (Nat.beq _ _) _ = _
      rw [beq_self']
      show optK _ (cutN ((k + 1 + 1) * 2) 0 (cellsA acc ++ cellsA [(getOf d.rows v.1 v.2 0).1])) = _
      rw [← cellsA_append, cellsA_cut _ (k + 1 + 1) (by simp [hk])]
      show ifK (nonNil (cellsA _) && AV.plains (cellsA _)) _ = _
      rw [cellsA_nonNil (by simp), cellsA_plains]
      show L86 Tryz.prog N _ _ = _
      rw [ih, List.append_assoc]
      rfl
theorem main86a (d : Hid) (u : AV) (hu : AV.under 2 (.ptrL [.hptr 0, u] 0) = true) (N : Nat) (room : Int) (v : V2) (l : List V2) (e : V2) (h : walk d.rows N room v = some (l, e)) (hN : N ≤ 5000) :
    L86 Tryz.prog N (tE u mt room) (stE0 d v.1 v.2) = some (.tup [.lst (cellsA l) l.length false l.isEmpty, .bool (eqI e.1 0)], d) := by
  cases N with
  | zero => cases h
  | succ N =>
    rw [step86a]
    rcases walk_step h with ⟨h1, rfl, rfl⟩ | ⟨h1, h2, h3, h4, l', rfl, h5⟩
    · rw [h1, eqI_self]; rfl
    · rw [h1, h2, h3, h4, hu]
      show L86 Tryz.prog N _ (stE1 d _ _ (cellsA [(getOf d.rows v.1 v.2 0).1])) = _
      rw [main86b d u hu N _ _ l' e 0 [(getOf d.rows v.1 v.2 0).1] h5 rfl (by omega)]
      rfl
def elemsO (d : Hid) (t n : Int) : Option (List V2 × V2) := walk d.rows 5000 (usedOf d) (t, n)
def elems (d : Hid) (t n : Int) : List V2 × V2 := match elemsO d t n with | some p => p | none => ([], (0, 0))
def lstA (l : List V2) : AV := .lst (cellsA l) l.length false l.isEmpty
def F86 (d : Hid) : List AV → Option (Bool × AV × Hid)
  | [.ptrL [.hptr 0, u] 0, .agg [.int .i64 t, .int .i64 n]] => some ((elemsO d t n).isSome && AV.under 2 (.ptrL [.hptr 0, u] 0), .tup [lstA (elems d t n).1, .bool (eqI (elems d t n).2.1 0)], d)
  | _ => none
theorem k86 : MethOk Tryz.prog G0 86 F86 := meth_known (D := D86) (m := 5000) (loops := 5) (n := 8) hm hn G0_plain kX1 kY1 fun d ar x d' hF => by
  unfold F86 at hF
  split at hF
  · rename_i u t n
    simp only [Option.some.injEq, Prod.mk.injEq, Bool.and_eq_true] at hF
    obtain ⟨⟨h1, h2⟩, rfl, rfl⟩ := hF
    rw [start86]
    cases he : elemsO d t n with
    | none => rw [he] at h1; cases h1
    | some p =>
      have := main86a d u h2 5000 (usedOf d) (t, n) p.1 p.2 he (by omega)
      rw [this, elems, he]
      rfl
  · cases hF
end Go.Am.Sto
end
section
namespace Go.Am.Sto
open Go Go.Am Go.Proofs
def D84 : Live := fun i => match i with | 0 => .pack [0, 1, 5, 6, 7, 8] | _ => .all
def L84 (P : Program) (rounds : Nat) : T → St → Option R := runLoop P G0 X1 Y1 5 8 D84 Res.meth? 5000 84 (.pack [0, 1, 5, 6, 7, 8]) 3 rounds
def rowN (r : Nat) (t n : Int) : Row := { vals := [.int .i64 t, .int .i64 n], root := r, pos := 0, ep := 0, fep := 0, ext := 2, solo := true, ty := 29 }
def stL (d : Hid) (t n : Int) : St := ⟨3, ((Tr.nil.set 0 (.hid d)).set 1 (.row (rowN 1 t n))).set 2 (.row (rowN 2 0 0))⟩
def tL (l : AV) (i : Int) : T := tOf 35 [(0, .hptr 0), (1, l), (5, .ptr 1 0), (6, .ptr 2 0), (7, .int .i64 0), (8, .int .i64 i)]
theorem start84 (d : Hid) (cs : List AV) (m : Nat) (tt nl : Bool) (t n : Int) : bodyY Tryz.prog G0 X1 Y1 5 8 D84 Res.meth? 5000 Tryz.prog.funcs[84]? [.hptr 0, .lst cs m tt nl, val t n] (St.one d) = L84 Tryz.prog 5000 (tL (.lst cs m tt nl) (IntKind.i64.wrap (.ofNat m - 1))) (stL d t n) := by kernel_rfl
theorem end84 (N : Nat) (d : Hid) (l : AV) (t n : Int) : L84 Tryz.prog (N + 1) (tL l (-1)) (stL d t n) = some (.tup [.agg [.int .i64 t, .int .i64 n], .int .i64 0], d) := by kernel_rfl
abbrev mk2 (d : Hid) (a b t n : Int) : (V2 × Int) × Hid := mkOf d 1 [(a, b), (t, n)]
theorem step84 (N : Nat) (d : Hid) (cs : List AV) (m j : Nat) (tt nl : Bool) (t n : Int) : L84 Tryz.prog (N + 1) (tL (.lst cs m tt nl) (.ofNat j)) (stL d t n) =
    ifK (Nat.blt j m && nonNil cs) (opt2 (fun a b => ifK (!eqI a 6 && !eqI t 6) (byB (!eqI (mk2 d a b t n).1.2 0) (some (.tup [.agg [.int .i64 0, .int .i64 0], .int .i64 (mk2 d a b t n).1.2], (mk2 d a b t n).2))
      (ifK (AV.under 3 (.lst cs m tt nl)) (L84 Tryz.prog N (tL (.lst cs m tt nl) (IntKind.i64.wrap (.ofNat j - 1))) (stL (mk2 d a b t n).2 (mk2 d a b t n).1.1.1 (mk2 d a b t n).1.1.2))))) (cutN 2 (j * 2) cs)) := by kernel_rfl
def downOf (l : List V2) : Nat → Hid → V2 → (V2 × Int) × Hid
  | 0, d, e => ((e, 0), d)
  | j + 1, d, e => match l[j]? with
    | some v => byB (!eqI (mkOf d 1 [v, e]).1.2 0) (((0, 0), (mkOf d 1 [v, e]).1.2), (mkOf d 1 [v, e]).2) (downOf l j (mkOf d 1 [v, e]).2 (mkOf d 1 [v, e]).1.1)
    | none => ((e, 0), d)
def ofCells : List AV → List V2
  | .int .i64 a :: .int .i64 b :: r => (a, b) :: ofCells r
  | _ => []
def isCells : List AV → Nat → Bool
  | [], 0 => true
  | .int .i64 _ :: .int .i64 _ :: r, m + 1 => isCells r m
  | _, _ => false
theorem ofCells_cells : ∀ l : List V2, ofCells (cellsA l) = l
  | [] => rfl
  | _ :: l => by simp only [cellsA, ofCells, ofCells_cells l]
theorem isCells_cells : ∀ l : List V2, isCells (cellsA l) l.length = true
  | [] => rfl
  | _ :: l => isCells_cells l
theorem isCells_eq : ∀ {cs : List AV} {m : Nat}, isCells cs m = true → cs = cellsA (ofCells cs) ∧ (ofCells cs).length = m
  | [], 0, _ => ⟨rfl, rfl⟩
  | .int .i64 a :: .int .i64 b :: r, m + 1, h => by
    obtain ⟨h1, h2⟩ := isCells_eq (cs := r) (m := m) h
    exact ⟨by simp only [ofCells, cellsA]; rw [← h1], by simp only [ofCells, List.length_cons, h2]⟩
  | [], m + 1, h => by simp [isCells] at h
  | .int .i64 a :: .int .i64 b :: r, 0, h => by simp [isCells] at h
def no6 (l : List V2) : Bool := l.all fun p => !eqI p.1 6
theorem mk_no6 (d : Hid) (k : Int) (sl : List V2) : (!eqI (mkOf d k sl).1.1.1 6) = true := by
  unfold mkOf
  split
  · cases okAll d.rows.length sl with
    | false => rfl
    | true =>
      rename_i L U _
      cases full L U sl.length <;> rfl
  · rfl
theorem main84 (l : List V2) (hl6 : no6 l = true) (tt nl : Bool) : ∀ (j N : Nat) (d : Hid) (e : V2), (!eqI e.1 6) = true → j < N → j ≤ l.length → N ≤ 5000 →
    L84 Tryz.prog N (tL (.lst (cellsA l) l.length tt nl) (IntKind.i64.wrap (.ofNat j - 1))) (stL d e.1 e.2) = some (getV (downOf l j d e).1, (downOf l j d e).2)
  | 0, N + 1, d, e, _, _, _, _ => end84 N d _ e.1 e.2
  | j + 1, N + 1, d, e, h6, h1, h2, h3 => by
    have hi : IntKind.i64.wrap (Int.ofNat (j + 1) - 1) = Int.ofNat j := by
      rw [wrap64 (by simp only [Int.ofNat_eq_natCast]; omega) (by simp only [Int.ofNat_eq_natCast]; omega)]
      simp only [Int.ofNat_eq_natCast]; omega
    have hlt : j < l.length := by omega
    obtain ⟨c1, c2⟩ := cells_cut l j _ (List.getElem?_eq_getElem hlt)
    have hb : Nat.blt j l.length = true := Nat.ble_eq_true_of_le hlt
    rw [hi, step84, c1, c2, hb]
    have h6a : (!eqI (l[j]).1 6 && !eqI e.1 6) = true := by rw [h6, show (!eqI (l[j]).1 6) = true from List.all_eq_true.1 hl6 _ (List.getElem_mem hlt)]; rfl
    show ifK (!eqI (l[j]).1 6 && !eqI e.1 6) _ = _
    rw [h6a]
    show byB (!eqI (mkOf d 1 [l[j], e]).1.2 0) _ (ifK (AV.unders 3 (cellsA l)) (L84 Tryz.prog N (tL _ (IntKind.i64.wrap (.ofNat j - 1))) (stL (mkOf d 1 [l[j], e]).2 (mkOf d 1 [l[j], e]).1.1.1 (mkOf d 1 [l[j], e]).1.1.2))) = _
    rw [cellsA_unders]
    have ih := main84 l hl6 tt nl j N (mkOf d 1 [l[j], e]).2 (mkOf d 1 [l[j], e]).1.1 (mk_no6 _ _ _) (by omega) (by omega) (by omega)
    show byB _ _ (L84 Tryz.prog N _ _) = _
    rw [ih]
    simp only [downOf, List.getElem?_eq_getElem hlt]
    cases eqI (mkOf d 1 [l[j], e]).1.2 0 <;> rfl
def F84 (d : Hid) : List AV → Option (Bool × AV × Hid)
  | [.hptr 0, .lst cs m _ _, .agg [.int .i64 t, .int .i64 n]] => some (isCells cs m && (Nat.ble m 4500 && (no6 (ofCells cs) && !eqI t 6)), getV (downOf (ofCells cs) m d (t, n)).1, (downOf (ofCells cs) m d (t, n)).2)
  | _ => none
theorem k84 : MethOk Tryz.prog G0 84 F84 := meth_known (D := D84) (m := 5000) (loops := 5) (n := 8) hm hn G0_plain kX1 kY1 fun d ar x d' hF => by
  unfold F84 at hF
  split at hF
  · rename_i cs m tt nl t n
    simp only [Option.some.injEq, Prod.mk.injEq, Bool.and_eq_true] at hF
    obtain ⟨⟨h1, h2, h7, h8⟩, rfl, rfl⟩ := hF
    obtain ⟨h3, h4⟩ := isCells_eq h1
    have hm9 : m ≤ 4500 := Nat.le_of_ble_eq_true h2
    rw [start84]
    have := main84 (ofCells cs) h7 tt nl m 5000 d (t, n) h8 (by omega) (by omega) (by omega)
    rw [← h3, h4] at this
    exact this
  · cases hF
end Go.Am.Sto
end
