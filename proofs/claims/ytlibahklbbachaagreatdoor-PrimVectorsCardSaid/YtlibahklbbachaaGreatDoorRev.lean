/- A list is reversed: its elements, and the slice that is turned. -/
import Derived.Test.YtlibahklbbachaaGreatDoorApp
section
set_option autoImplicit false
set_option maxRecDepth 100000
namespace Go.Am.Sto
open Go Go.Am Go.Proofs

/-- what a run gives -/
def Res.ret? : Res → Option Res
  | .ret v s => some (.ret v s)
  | _ => none
theorem ret_of {r x : Res} (h : Res.ret? r = some x) : r = x := by
  cases r with
  | ret v s => simpa [Res.ret?] using h
  | _ => cases h
def s57 (d : Hid) (a b : Int) (tt : Bool) : St := ⟨7, ((((((Tr.nil.set 0 (.hid d)).set 1 (.row (row0 1 23 [.hptr 0]))).set 2 (.row (row0 2 29 (v1 0 0)))).set 3 (.row (row0 3 24 [.int .i64 0]))).set 4 (.row (row0 4 71 [.hptr 0, .lst (v1 a b) 1 tt false]))).set 5 (.row (row0 5 29 (v1 0 0)))).set 6 (.row (row0 6 29 (v1 0 0)))⟩
def sE0 (d : Hid) (a b : Int) (tt : Bool) (t n : Int) : St := ⟨8, (s57 d a b tt).heap.set 7 (.row (row0 7 29 (v1 t n)))⟩
def sE1 (d : Hid) (a b : Int) (tt : Bool) (t n : Int) (C : List AV) : St := ⟨9, (sE0 d a b tt t n).heap.set 8 (.row (rowB 8 29 C))⟩
def tE' (out : AV) (room : Int) : T := tOf 49 [(0, .ptr 4 0), (3, .ptr 7 0), (6, out), (7, .int .i64 room)]
def L86' (P : Program) (rounds : Nat) : T → St → Option Res := runLoop P G0 X1 Y1 5 8 D86 Res.ret? 1000 86 (.pack [0, 3, 6, 7]) 8 rounds
section
variable (d : Hid) (a b : Int) (tt : Bool)
theorem start86' (t n : Int) : bodyY Tryz.prog G0 X1 Y1 5 8 D86 Res.ret? 1000 Tryz.prog.funcs[86]? [.ptr 4 0, val t n] (s57 d a b tt) = L86' Tryz.prog 1000 (tE' mt (usedOf d)) (sE0 d a b tt t n) := by kernel_rfl
def eR (x : AV) (u : Bool) (s : St) : Option Res := some (.ret (.tup [x, .bool u]) s)
theorem step86a' (N : Nat) (t n room : Int) : L86' Tryz.prog (N + 1) (tE' mt room) (sE0 d a b tt t n) =
    byB (eqI (kindOf d.rows t n) 1) (byB (!leI 0 room) (eR (.lst [] 0 true true) false (sE0 d a b tt t n)) (byB (!eqI (getO d t n 0).2 0) none (byB (!eqI (getO d t n 1).2 0) none
      (L86' Tryz.prog N (tE' (.sl 8 0 1 2 false) (IntKind.i64.wrap (room - 1))) (sE1 d a b tt (getO d t n 1).1.1 (getO d t n 1).1.2 (vI (getO d t n 0).1))))))
      (ifK (eqI t t && true) (eR (.lst [] 0 true true) (eqI t 0) (sE0 d a b tt t n))) := by kernel_rfl
theorem step86b' (N : Nat) (t n room : Int) (k : Nat) (C : List AV) : L86' Tryz.prog (N + 1) (tE' (.sl 8 0 (k + 1) 2 false) room) (sE1 d a b tt t n C) =
    byB (eqI (kindOf d.rows t n) 1) (byB (!leI 0 room) (eR (.lst [] 0 true true) false (sE1 d a b tt t n C)) (byB (!eqI (getO d t n 0).2 0) none (ifK (Nat.ble (k + 1 + 1) 1073741824) (optK (fun old => byB (!eqI (getO d t n 1).2 0) none
      (ifK ((bif Nat.ble (1 + C.length) (1 + 0 + (k + 1) * 2) then 0 else 0 + 1).beq (bif Nat.ble (1 + C.length) (1 + 0 + (k + 1) * 2) then 0 else 0 + 1))
        (optK (fun cs => ifK (nonNil cs && AV.plains cs) (L86' Tryz.prog N (tE' (.sl 8 0 (k + 1 + 1) 2 false) (IntKind.i64.wrap (room - 1))) (sE1 d a b tt (getO d t n 1).1.1 (getO d t n 1).1.2 cs))) (cutN ((k + 1 + 1) * 2) 0 (old ++ vI (getO d t n 0).1)))))
      (cutN ((k + 1) * 2) 0 C)))))
      (ifK (eqI t t && true) (eR (.sl 8 0 (k + 1) 2 false) (eqI t 0) (sE1 d a b tt t n C))) := by kernel_rfl
end
end Go.Am.Sto
end
section
set_option autoImplicit false
set_option maxRecDepth 100000
namespace Go.Am.Sto
open Go Go.Am Go.Proofs

def D89 : Live := fun i => match i with | 0 => .keep [0, 2, 3] | _ => .all
def tR (k : Nat) (i j : Int) : T := tOf 28 [(0, .sl 8 0 k 2 false), (2, .int .i64 i), (3, .int .i64 j)]
def sE2 (d : Hid) (a b : Int) (tt : Bool) (t n : Int) (e : Nat) (C : List AV) : St := ⟨9, (sE0 d a b tt t n).heap.set 8 (.row { vals := C, root := 8, pos := 1, ep := 0, fep := 0, ext := e, solo := true, ty := 29 })⟩
theorem sE1_eq (d : Hid) (a b : Int) (tt : Bool) (t n : Int) (C : List AV) : sE1 d a b tt t n C = sE2 d a b tt t n (1 + C.length) C := rfl
def L89 (P : Program) (rounds : Nat) : T → St → Option Res := runLoop P G0 .none .none 5 8 D89 Res.ret? 1000 89 (.keep [0, 2, 3]) 9 rounds
section
variable (d : Hid) (a b : Int) (tt : Bool) (t n : Int) (e : Nat)
theorem start89 (k : Nat) (C : List AV) : bodyY Tryz.prog G0 .none .none 5 8 D89 Res.ret? 1000 Tryz.prog.funcs[89]? [.sl 8 0 k 2 false] (sE2 d a b tt t n e C) = L89 Tryz.prog 1000 (tR k 0 (IntKind.i64.wrap (.ofNat k - 1))) (sE2 d a b tt t n e C) := by kernel_rfl
theorem step89 (N i j k : Nat) (C : List AV) : L89 Tryz.prog (N + 1) (tR k (.ofNat i) (.ofNat j)) (sE2 d a b tt t n e C) =
    byB (!leI (.ofNat j) (.ofNat i)) (ifK (Nat.blt j k && true) (opt2 (fun x y => ifK (Nat.blt i k && true) (opt2 (fun x' y' => ifK (Nat.blt i k && true) (optK (fun v => ifK (Nat.blt j k && true) (optK (fun w =>
        L89 Tryz.prog N (tR k (IntKind.i64.wrap (.ofNat i + 1)) (IntKind.i64.wrap (.ofNat j - 1))) (sE2 d a b tt t n e w))
      (overwrite v (0 + j * 2) (vI (x', y'))))) (overwrite C (0 + i * 2) (vI (x, y))))) (cutN 2 (0 + i * 2) C))) (cutN 2 (0 + j * 2) C)))
      (some (.ret (.tup []) (sE2 d a b tt t n e C))) := by kernel_rfl
theorem step89n (N i k : Nat) (j : Nat) (C : List AV) : L89 Tryz.prog (N + 1) (tR k (.ofNat i) (.negSucc j)) (sE2 d a b tt t n e C) = byB (!leI (.negSucc j) (.ofNat i)) none (some (.ret (.tup []) (sE2 d a b tt t n e C))) := by kernel_rfl
end
end Go.Am.Sto
end
section
set_option autoImplicit false
set_option maxRecDepth 100000
namespace Go.Am.Sto
open Go Go.Am Go.Proofs

theorem cells_at : ∀ (l : List V2) (i : Nat) (h : i < l.length), cutN 2 (i * 2) (cellsA l) = some (vI l[i])
  | [], i, h => by simp at h
  | p :: l, 0, _ => by show cutN 2 0 _ = _; simp [cutN, takeN, cellsA]
  | p :: l, i + 1, h => by
    have := cells_at l i (by simpa using h)
    rw [show (i + 1) * 2 = i * 2 + 1 + 1 by omega]
    show takeN 2 ((cellsA (p :: l)).drop (i * 2 + 1 + 1)) = _
    simp only [cellsA, List.drop_succ_cons]
    exact this
theorem cells_set : ∀ (l : List V2) (i : Nat) (x : V2), i < l.length → overwrite (cellsA l) (i * 2) (vI x) = some (cellsA (l.set i x))
  | [], i, _, h => by simp at h
  | p :: l, 0, x, _ => by
    have : ∀ q : List AV, overwrite q 0 [] = some q := fun q => by cases q <;> rfl
    show overwrite _ 0 _ = _
    simp [overwrite, cellsA, this]
  | p :: l, i + 1, x, h => by
    have := cells_set l i x (by simpa using h)
    rw [show (i + 1) * 2 = i * 2 + 1 + 1 by omega]
    simp only [cellsA, overwrite, List.set_cons_succ, this]

/-- turned so far -/
def Turned (l m : List V2) (i j : Nat) : Prop := m.length = l.length ∧ ∀ x, x < l.length → m[x]? = if x < i ∨ j < x then l[l.length - 1 - x]? else l[x]?

theorem turned_end {l m : List V2} {i j : Nat} (h : Turned l m i j) (hij : i + j + 1 = l.length) (hle : j ≤ i) : m = l.reverse := by
  apply List.ext_getElem?
  intro x
  by_cases hx : x < l.length
  · rw [h.2 x hx, List.getElem?_reverse hx]
    by_cases h2 : x < i ∨ j < x
    · rw [if_pos h2]
    · rw [if_neg h2]
      have : x = l.length - 1 - x := by omega
      rw [← this]
  · rw [List.getElem?_eq_none (by rw [h.1]; omega), List.getElem?_eq_none (by simp; omega)]

theorem turned_step {l m : List V2} {i j : Nat} (h : Turned l m i j) (hij : i + j + 1 = l.length) (hlt : i < j) (hi : i < m.length) (hj : j < m.length) : Turned l ((m.set i m[j]).set j m[i]) (i + 1) (j - 1) := by
  refine ⟨by simp [h.1], fun x hx => ?_⟩
  rw [List.getElem?_set, List.getElem?_set]
  by_cases h1 : j = x
  · subst h1
    rw [if_pos rfl, if_pos (by simpa using hj), if_pos (by omega)]
    have := h.2 i (by omega)
    rw [if_neg (by omega), List.getElem?_eq_getElem hi] at this
    rw [show l.length - 1 - j = i by omega, ← this]
  · rw [if_neg h1]
    by_cases h2 : i = x
    · subst h2
      rw [if_pos rfl, if_pos hi, if_pos (by omega)]
      have := h.2 j (by omega)
      rw [if_neg (by omega), List.getElem?_eq_getElem hj] at this
      rw [show l.length - 1 - i = j by omega, ← this]
    · rw [if_neg h2, h.2 x hx]
      by_cases h3 : x < i ∨ j < x
      · rw [if_pos h3, if_pos (by omega)]
      · rw [if_neg h3, if_neg (by omega)]

section
variable (d : Hid) (a b : Int) (tt : Bool) (t n : Int) (e : Nat)
theorem main89 (l : List V2) (hl : l.length ≤ 900) : ∀ (N i j : Nat) (m : List V2), Turned l m i j → i + j + 1 = l.length → l.length < N + i →
    L89 Tryz.prog N (tR l.length (.ofNat i) (.ofNat j)) (sE2 d a b tt t n e (cellsA m)) = some (.ret (.tup []) (sE2 d a b tt t n e (cellsA l.reverse)))
  | 0, i, j, m, _, h2, h3 => by omega
  | N + 1, i, j, m, h1, h2, h3 => by
    rw [step89]
    by_cases hji : j ≤ i
    · rw [leI_t (show Int.ofNat j ≤ Int.ofNat i by simpa using hji), turned_end h1 h2 hji]
      rfl
    · have hij : i < j := by omega
      have hjl : j < m.length := by rw [h1.1]; omega
      have hil : i < m.length := by omega
      have bj : Nat.blt j l.length = true := by simp; omega
      have bi : Nat.blt i l.length = true := by simp; omega
      rw [leI_f (show Int.ofNat i < Int.ofNat j by simpa using hij), bj, bi, Nat.zero_add, Nat.zero_add, cells_at m j hjl]
      show ifK true (opt2 _ (cutN 2 (i * 2) (cellsA m))) = _
      rw [cells_at m i hil]
      show ifK true (optK _ (overwrite (cellsA m) (i * 2) (vI m[j]))) = _
      rw [cells_set m i m[j] hil]
      show ifK true (optK _ (overwrite (cellsA (m.set i m[j])) (j * 2) (vI m[i]))) = _
      rw [cells_set _ j m[i] (by simpa using hjl)]
      show L89 Tryz.prog N (tR l.length (IntKind.i64.wrap (Int.ofNat i + 1)) (IntKind.i64.wrap (Int.ofNat j - 1))) _ = _
      rw [wrap64 (by simp; omega) (by simp; omega), wrap64 (by simp; omega) (by simp; omega), show Int.ofNat i + 1 = Int.ofNat (i + 1) from rfl, show Int.ofNat j - 1 = Int.ofNat (j - 1) by simp; omega]
      exact main89 l hl N (i + 1) (j - 1) _ (turned_step h1 h2 hij hil hjl) (by omega) (by omega)

theorem rev89 (l : List V2) (hl : l.length ≤ 900) (h0 : 0 < l.length) :
    bodyY Tryz.prog G0 .none .none 5 8 D89 Res.ret? 1000 Tryz.prog.funcs[89]? [.sl 8 0 l.length 2 false] (sE1 d a b tt t n (cellsA l)) = some (.ret (.tup []) (sE2 d a b tt t n (1 + (cellsA l).length) (cellsA l.reverse))) := by
  rw [sE1_eq, start89]
  rw [wrap64 (by simp; omega) (by simp; omega), show (Int.ofNat l.length - 1) = Int.ofNat (l.length - 1) by simp; omega]
  exact main89 d a b tt t n _ l hl 1000 0 (l.length - 1) l ⟨rfl, fun x hx => by rw [if_neg (by omega)]⟩ (by omega) (by omega)
end
end Go.Am.Sto
end
section
set_option autoImplicit false
set_option maxRecDepth 100000
namespace Go.Am.Sto
open Go Go.Am Go.Proofs

section
variable (d : Hid) (a b : Int) (tt : Bool)
theorem main86b' : ∀ (N : Nat) (room : Int) (v : V2) (l : List V2) (e : V2) (k : Nat) (acc : List V2), walk d.rows N room v = some (l, e) → acc.length = k + 1 → k + N ≤ 1000000 →
    L86' Tryz.prog N (tE' (.sl 8 0 (k + 1) 2 false) room) (sE1 d a b tt v.1 v.2 (cellsA acc)) = eR (.sl 8 0 (acc ++ l).length 2 false) (eqI e.1 0) (sE1 d a b tt e.1 e.2 (cellsA (acc ++ l)))
  | 0, _, _, _, _, _, _, h, _, _ => by cases h
  | N + 1, room, v, l, e, k, acc, h, hk, hN => by
    rw [step86b', cellsA_cut acc (k + 1) hk]
    rcases walk_step h with ⟨h1, rfl, rfl⟩ | ⟨h1, h2, h3, h4, l', rfl, h5⟩
    · rw [h1, eqI_self]
      show eR (.sl 8 0 (k + 1) 2 false) (eqI e.1 0) (sE1 d a b tt e.1 e.2 (cellsA acc)) = _
      rw [List.append_nil, hk]
    · have hb : Nat.ble (k + 1 + 1) 1073741824 = true := Nat.ble_eq_true_of_le (by omega)
      have ih := main86b' N (IntKind.i64.wrap (room - 1)) (getOf d.rows v.1 v.2 1).1 l' e (k + 1) (acc ++ [(getOf d.rows v.1 v.2 0).1]) h5 (by simp [hk]) (by omega)
      rw [h1, h2, h3, h4, hb]
      show ifK (Nat.beq _ _) _ = _
      rw [beq_self']
      show optK _ (cutN ((k + 1 + 1) * 2) 0 (cellsA acc ++ cellsA [(getOf d.rows v.1 v.2 0).1])) = _
      rw [← cellsA_append, cellsA_cut _ (k + 1 + 1) (by simp [hk])]
      show ifK (nonNil (cellsA _) && AV.plains (cellsA _)) _ = _
      rw [cellsA_nonNil (by simp), cellsA_plains]
      show L86' Tryz.prog N _ _ = _
      rw [ih, List.append_assoc]
      rfl

theorem main86e' (N : Nat) (room : Int) (v e : V2) (h : walk d.rows N room v = some ([], e)) :
    L86' Tryz.prog N (tE' mt room) (sE0 d a b tt v.1 v.2) = eR (.lst [] 0 true true) (eqI e.1 0) (sE0 d a b tt e.1 e.2) := by
  cases N with
  | zero => cases h
  | succ N =>
    rw [step86a']
    rcases walk_step h with ⟨h1, _, rfl⟩ | ⟨h1, h2, h3, h4, l', h6, h5⟩
    · rw [h1, eqI_self]; rfl
    · cases h6
theorem main86a' (N : Nat) (room : Int) (v : V2) (l : List V2) (e : V2) (h : walk d.rows N room v = some (l, e)) (h0 : l ≠ []) (hN : N ≤ 1000) :
    L86' Tryz.prog N (tE' mt room) (sE0 d a b tt v.1 v.2) = eR (.sl 8 0 l.length 2 false) (eqI e.1 0) (sE1 d a b tt e.1 e.2 (cellsA l)) := by
  cases N with
  | zero => cases h
  | succ N =>
    rw [step86a']
    rcases walk_step h with ⟨h1, rfl, rfl⟩ | ⟨h1, h2, h3, h4, l', rfl, h5⟩
    · exact absurd rfl h0
    · rw [h1, h2, h3, h4]
      show L86' Tryz.prog N _ (sE1 d a b tt _ _ (cellsA [(getOf d.rows v.1 v.2 0).1])) = _
      rw [main86b' d a b tt N _ _ l' e 0 [(getOf d.rows v.1 v.2 0).1] h5 rfl (by omega)]
      rfl
end

def X57 (c1 c2 : List AV → St → Bool) (r1 r2 : Res) : Known := (X3.add 86 (atX c1 r1)).add 89 (atX c2 r2)
def Y57 {β : Type} (c1 c2 : List AV → St → Bool) (r1 r2 : Res) : KnownK β := (Y3.add 86 (atK c1 r1)).add 89 (atK c2 r2)
def X57e (c1 : List AV → St → Bool) (r1 : Res) : Known := X3.add 86 (atX c1 r1)
def Y57e {β : Type} (c1 : List AV → St → Bool) (r1 : Res) : KnownK β := Y3.add 86 (atK c1 r1)
end Go.Am.Sto
end
section
set_option autoImplicit false
set_option maxRecDepth 100000
namespace Go.Am.Sto
open Go Go.Am Go.Proofs

theorem mV_ok {D : (V2 × Int) × Hid} (h : eqI D.1.2 0 = true) : mV D = some (getV D.1, D.2) := by
  unfold mV
  rw [h]
  show gV D.2 D.1.1.1 D.1.1.2 0 = _
  unfold gV getV
  rw [eqI_t h]
section
variable (d : Hid) (a b : Int) (tt : Bool) (c1 c2 : List AV → St → Bool) (k e : Nat) (t n : Int) (C C' : List AV)
theorem t57 : bodyY Tryz.prog G0 (X57 c1 c2 (.ret (.tup [.sl 8 0 k 2 false, .bool true]) (sE1 d a b tt t n C)) (.ret (.tup []) (sE2 d a b tt t n e C'))) (Y57 c1 c2 (.ret (.tup [.sl 8 0 k 2 false, .bool true]) (sE1 d a b tt t n C)) (.ret (.tup []) (sE2 d a b tt t n e C'))) 90 20 noLive Res.meth? 100 Tryz.prog.funcs[10]? [.hptr 0, .int .i64 57, .lst (v1 a b) 1 tt false] (St.one d) =
    ifK (okp d (v1 a b) 1) (ifK (c1 [.ptr 4 0, val a b] (s57 d a b tt)) (ifK (c2 [.sl 8 0 k 2 false] (sE1 d a b tt t n C)) (optK (fun cs => ifK (Nat.blt 0 k && AV.plains cs) (ifK (isCells cs k && Nat.ble k 900) (mV (downOf (ofCells cs) k d (0, 0))))) (cutN (k * 2) 0 C')))) := by kernel_rfl
theorem t57e : bodyY Tryz.prog G0 (X57e c1 (.ret (.tup [.lst [] 0 true true, .bool true]) (sE0 d a b tt t n))) (Y57e c1 (.ret (.tup [.lst [] 0 true true, .bool true]) (sE0 d a b tt t n))) 90 20 noLive Res.meth? 100 Tryz.prog.funcs[10]? [.hptr 0, .int .i64 57, .lst (v1 a b) 1 tt false] (St.one d) =
    ifK (okp d (v1 a b) 1) (ifK (c1 [.ptr 4 0, val a b] (s57 d a b tt)) (gV d 0 0 0)) := by kernel_rfl
end

theorem Res.of_ret {P : Program} {G : Glob} {X : Known} {Y : KnownK Res} (hY : KnownKOk X Y) {loops n m : Nat} {D : Live} {fn : Option Func} {args : List AV} {s : St} {x : Res} (h : bodyY P G X Y loops n D Res.ret? m fn args s = some x) :
    bodyD P G (callN P G X loops n) D m fn args s = x := ret_of (bodyY_le hY h)

/-- what a list that is turned is -/
abbrev revD (d : Hid) (a b : Int) : (V2 × Int) × Hid := downOf (elems d a b).1.reverse (elems d a b).1.length d (0, 0)
def F57 (d : Hid) : List AV → Option (Bool × AV × Hid)
  | [.hptr 0, .int .i64 57, .lst [.int .i64 a, .int .i64 b] 1 _ false] =>
    some (okp d (v1 a b) 1 && ((elemsO d a b).isSome && (eqI (elems d a b).2.1 0 && (Nat.ble (elems d a b).1.length 900 && eqI (revD d a b).1.2 0))), getV (revD d a b).1, (revD d a b).2)
  | _ => none
theorem k57 : MethOk Tryz.prog G0 10 F57 := meth_each fun d ar => by
  cases hF0 : F57 d ar with
  | none => exact meth_only (D := noLive) (m := 0) (loops := 0) (n := 5) hm hn G0_plain kX3 kY3 fun x d' h => by rw [hF0] at h; cases h
  | some p =>
    unfold F57 at hF0
    split at hF0
    · rename_i a b tt
      by_cases hpre : (okp d (v1 a b) 1 && ((elemsO d a b).isSome && (eqI (elems d a b).2.1 0 && (Nat.ble (elems d a b).1.length 900 && eqI (revD d a b).1.2 0)))) = true
      · simp only [Bool.and_eq_true] at hpre
        obtain ⟨⟨p1, p2⟩, p3, p4, p5, p6⟩ := hpre
        have pok : okp d (v1 a b) 1 = true := by simp only [okp, p1, p2, Bool.and_true]
        obtain ⟨q, hq⟩ := Option.isSome_iff_exists.1 p3
        have hel : elems d a b = q := by unfold elems; rw [hq]
        obtain ⟨l, e⟩ := q
        rw [hel] at p4 p5
        have hl : l.length ≤ 900 := Nat.le_of_ble_eq_true p5
        have hD : revD d a b = downOf l.reverse l.length d (0, 0) := by unfold revD; rw [hel]
        by_cases h0 : l = []
        · subst h0
          have r1 := Res.of_ret (loops := 5) (n := 8) (m := 1000) (D := D86) kY1 ((start86' d a b tt a b).trans (main86e' d a b tt 1000 _ (a, b) e hq))
          have r1 : bodyD Tryz.prog G0 (callN Tryz.prog G0 X1 5 8) D86 1000 Tryz.prog.funcs[86]? [.ptr 4 0, val a b] (s57 d a b tt) = .ret (.tup [.lst [] 0 true true, .bool true]) (sE0 d a b tt e.1 e.2) := by
            rw [r1, show eqI e.1 0 = true from p4]
          refine meth_only (D := noLive) (m := 100) (loops := 90) (n := 20) (X := X57e (atB _ _) _) (Y := Y57e (atB _ _) _) hm hn G0_plain (kX3.add (at_known hm hn kX1 r1)) (addA kY3 86 _ _) fun x d' h => ?_
          unfold F57 at h
          simp only [Option.some.injEq, Prod.mk.injEq] at h
          obtain ⟨_, rfl, rfl⟩ := h
          rw [t57e, pok, atB_self, hD]
          rfl
        · have hpos : 0 < l.length := by cases l with | nil => exact absurd rfl h0 | cons _ _ => simp
          have r1 := Res.of_ret (loops := 5) (n := 8) (m := 1000) (D := D86) kY1 ((start86' d a b tt a b).trans (main86a' d a b tt 1000 _ (a, b) l e hq h0 (by omega)))
          have r1 : bodyD Tryz.prog G0 (callN Tryz.prog G0 X1 5 8) D86 1000 Tryz.prog.funcs[86]? [.ptr 4 0, val a b] (s57 d a b tt) = .ret (.tup [.sl 8 0 l.length 2 false, .bool true]) (sE1 d a b tt e.1 e.2 (cellsA l)) := by
            rw [r1, show eqI e.1 0 = true from p4]
          have r2 := Res.of_ret (loops := 5) (n := 8) (m := 1000) (D := D89) (KnownKOk.none _) (rev89 d a b tt e.1 e.2 l hl hpos)
          refine meth_only (D := noLive) (m := 100) (loops := 90) (n := 20) (X := X57 (atB _ _) (atB _ _) _ _) (Y := Y57 (atB _ _) (atB _ _) _ _) hm hn G0_plain ((kX3.add (at_known hm hn kX1 r1)).add (at_known hm hn (KnownOk.none _ _) r2)) (addA (addA kY3 86 _ _) 89 _ _) fun x d' h => ?_
          unfold F57 at h
          simp only [Option.some.injEq, Prod.mk.injEq] at h
          obtain ⟨_, rfl, rfl⟩ := h
          have hrl : l.reverse.length = l.length := by simp
          have hb : Nat.blt 0 l.length = true := by simp; omega
          have hcut : cutN (l.length * 2) 0 (cellsA l.reverse) = some (cellsA l.reverse) := cellsA_cut _ _ hrl
          have hic : isCells (cellsA l.reverse) l.length = true := by rw [← hrl]; exact isCells_cells _
          rw [t57, pok, atB_self, atB_self, hcut, hD]
          show ifK (Nat.blt 0 l.length && AV.plains (cellsA l.reverse)) (ifK (isCells (cellsA l.reverse) l.length && Nat.ble l.length 900) (mV (downOf (ofCells (cellsA l.reverse)) l.length d (0, 0)))) = _
          rw [hb, cellsA_plains, hic, p5, ofCells_cells]
          exact mV_ok (by rw [← hD]; exact p6)
      · exact meth_only (D := noLive) (m := 0) (loops := 0) (n := 5) hm hn G0_plain kX3 kY3 fun x d' h => by
          unfold F57 at h
          simp only [Option.some.injEq, Prod.mk.injEq] at h
          exact absurd h.1 hpre
    · cases hF0
end Go.Am.Sto
end
section
set_option autoImplicit false
set_option maxRecDepth 100000
namespace Go.Am.Sto
open Go Go.Am Go.Proofs

abbrev gA (t n e : Int) : AV := .tup [.agg [.int .i64 t, .int .i64 n], .int .i64 e]
def P21 (d : Hid) : List AV → Option (Bool × AV × Hid)
  | [.hptr 0, .int .i64 21, .lst [.int .i64 a, .int .i64 b] 1 _ false] => some (okp d (v1 a b) 1 && ((elemsO d a b).isSome && eqI (elems d a b).2.1 0), gA 4 (.ofNat (elems d a b).1.length) 0, d)
  | _ => none
def P20 (d : Hid) : List AV → Option (Bool × AV × Hid)
  | [.hptr 0, .int .i64 20, .lst [.int .i64 a, .int .i64 b] 1 _ false] => some (okp d (v1 a b) 1 && ((elemsO d a b).isSome && eqI (elems d a b).2.1 0), gA 1 0 0, d)
  | _ => none
def P33 (d : Hid) : List AV → Option (Bool × AV × Hid)
  | [.hptr 0, .int .i64 33, .lst [.int .i64 a, .int .i64 b, .int .i64 c, .int .i64 e] 2 _ false] => some (okp d (v2 a b c e) 2 && (eqvO d.rows 400 100000 (a, b) (c, e)).isSome, gA 1 0 0, d)
  | _ => none
abbrev lsD (d : Hid) (cs : List AV) (n : Nat) (t m : Int) : (V2 × Int) × Hid := downOf (ofCells cs) n d (t, m)
def P19 (d : Hid) : List AV → Option (Bool × AV × Hid)
  | [.hptr 0, .int .i64 19, .lst cs n _ _] => some (okp d cs n && eqI (lsD d cs n 0 0).1.2 0, getV (lsD d cs n 0 0).1, (lsD d cs n 0 0).2)
  | _ => none
abbrev vcD (d : Hid) (a b : Int) : (V2 × Int) × Hid := mkOf d 2 (elems d a b).1
def P29 (d : Hid) : List AV → Option (Bool × AV × Hid)
  | [.hptr 0, .int .i64 29, .lst [.int .i64 a, .int .i64 b] 1 _ false] => some (okp d (v1 a b) 1 && ((elemsO d a b).isSome && (eqI (elems d a b).2.1 0 && (Nat.ble (elems d a b).1.length 900 && (okAll d.rows.length (elems d a b).1 && eqI (vcD d a b).1.2 0)))), getV (vcD d a b).1, (vcD d a b).2)
  | _ => none
abbrev vlD (d : Hid) (a b : Int) : (V2 × Int) × Hid := downOf (slotsO d a b) (slotsO d a b).length d (0, 0)
def P30 (d : Hid) : List AV → Option (Bool × AV × Hid)
  | [.hptr 0, .int .i64 30, .lst [.int .i64 a, .int .i64 b] 1 _ false] => some (okp d (v1 a b) 1 && (eqI (kindOf d.rows a b) 2 && (Nat.ble (slotsO d a b).length 900 && eqI (vlD d a b).1.2 0)), getV (vlD d a b).1, (vlD d a b).2)
  | _ => none
abbrev apD (d : Hid) (a b c e : Int) : (V2 × Int) × Hid := downOf (elems d a b).1 (elems d a b).1.length d (c, e)
def P22 (d : Hid) : List AV → Option (Bool × AV × Hid)
  | [.hptr 0, .int .i64 22, .lst [.int .i64 a, .int .i64 b, .int .i64 c, .int .i64 e] 2 _ false] => some (okp d (v2 a b c e) 2 && ((elemsO d a b).isSome && (eqI (elems d a b).2.1 0 && (Nat.ble (elems d a b).1.length 900 && eqI (apD d a b c e).1.2 0))), getV (apD d a b c e).1, (apD d a b c e).2)
  | _ => none

theorem list_t {d : Hid} {a b : Int} (h : (elemsO d a b).isSome = true) : listB d a b = true := by rw [listB, h]; rfl
theorem k10_21 : MethOk Tryz.prog G0 10 P21 := meth_known (D := noLive) (m := 100) (loops := 90) (n := 20) hm hn G0_plain kX3 kY3 fun d ar x d' hF => by
  unfold P21 at hF
  split at hF
  · rename_i a b tt
    simp only [Option.some.injEq, Prod.mk.injEq] at hF
    obtain ⟨h1, rfl, rfl⟩ := hF
    obtain ⟨p1, h1⟩ := Bool.and_eq_true_iff.1 h1
    obtain ⟨p2, p3⟩ := Bool.and_eq_true_iff.1 h1
    exact (t21 d a b tt).trans (by rw [p1, list_t p2, p3]; rfl)
  · cases hF
theorem k10_20 : MethOk Tryz.prog G0 10 P20 := meth_known (D := noLive) (m := 100) (loops := 90) (n := 20) hm hn G0_plain kX3 kY3 fun d ar x d' hF => by
  unfold P20 at hF
  split at hF
  · rename_i a b tt
    simp only [Option.some.injEq, Prod.mk.injEq] at hF
    obtain ⟨h1, rfl, rfl⟩ := hF
    obtain ⟨p1, h1⟩ := Bool.and_eq_true_iff.1 h1
    obtain ⟨p2, p3⟩ := Bool.and_eq_true_iff.1 h1
    exact (t20 d a b tt).trans (by rw [p1, list_t p2, p3]; rfl)
  · cases hF
theorem k10_33 : MethOk Tryz.prog G0 10 P33 := meth_known (D := noLive) (m := 100) (loops := 90) (n := 20) hm hn G0_plain kX3 kY3 fun d ar x d' hF => by
  unfold P33 at hF
  split at hF
  · rename_i a b c e tt
    simp only [Option.some.injEq, Prod.mk.injEq] at hF
    obtain ⟨h1, rfl, rfl⟩ := hF
    obtain ⟨p1, p2⟩ := Bool.and_eq_true_iff.1 h1
    exact (t33 d a b c e tt).trans (by rw [p1, p2]; rfl)
  · cases hF
theorem same_cells : ∀ l : List V2, AV.sames (cellsA l) (cellsA l) = true
  | [] => rfl
  | p :: l => by
    show ((kindEq .i64 .i64 && eqI p.1 p.1) && ((kindEq .i64 .i64 && eqI p.2 p.2) && AV.sames (cellsA l) (cellsA l))) = true
    rw [eqI_self, eqI_self, same_cells l]; rfl
theorem same_lst (l : List V2) (n : Nat) (tt nl : Bool) : AV.same (.lst (cellsA l) n tt nl) (.lst (cellsA l) n tt nl) = true := by
  show (n.beq n && ((bif tt then tt else !tt) && ((bif nl then nl else !nl) && AV.sames (cellsA l) (cellsA l)))) = true
  rw [same_cells, beq_self']
  cases tt <;> cases nl <;> rfl
theorem k10_19 : MethOk Tryz.prog G0 10 P19 := meth_known (D := noLive) (m := 100) (loops := 90) (n := 20) hm hn G0_plain kX3 kY3 fun d ar x d' hF => by
  unfold P19 at hF
  split at hF
  · rename_i cs n tt nl
    simp only [Option.some.injEq, Prod.mk.injEq] at hF
    obtain ⟨h1, rfl, rfl⟩ := hF
    obtain ⟨p1, p2⟩ := Bool.and_eq_true_iff.1 h1
    obtain ⟨q1, q2⟩ := Bool.and_eq_true_iff.1 p1
    obtain ⟨q3, q4⟩ := Bool.and_eq_true_iff.1 q2
    obtain ⟨e1, e2⟩ := isCells_eq q1
    generalize hsl : ofCells cs = sl at *
    subst e1
    refine (t19 d (cellsA sl) n tt nl).trans ?_
    have hpl : AV.plain (.lst (cellsA sl) n tt nl) = true := cellsA_plains sl
    have hD : lsD d (cellsA sl) n 0 0 = downOf sl n d (0, 0) := by unfold lsD; rw [hsl]
    rw [hD] at p2 ⊢
    rw [hpl, p1, same_lst, q1, q3, hsl]
    exact mV_ok p2
  · cases hF
theorem lst_plain (l : List V2) : AV.plain (lstA l) = true := cellsA_plains l
theorem k10_29 : MethOk Tryz.prog G0 10 P29 := meth_known (D := noLive) (m := 100) (loops := 90) (n := 20) hm hn G0_plain kX3 kY3 fun d ar x d' hF => by
  unfold P29 at hF
  split at hF
  · rename_i a b tt
    simp only [Option.some.injEq, Prod.mk.injEq] at hF
    obtain ⟨h1, rfl, rfl⟩ := hF
    obtain ⟨p1, h1⟩ := Bool.and_eq_true_iff.1 h1
    obtain ⟨p2, h1⟩ := Bool.and_eq_true_iff.1 h1
    obtain ⟨p3, h1⟩ := Bool.and_eq_true_iff.1 h1
    obtain ⟨p4, h1⟩ := Bool.and_eq_true_iff.1 h1
    obtain ⟨p5, p6⟩ := Bool.and_eq_true_iff.1 h1
    refine (t29 d a b tt).trans ?_
    have hz : (bif (elems d a b).1.length.beq 0 then (elems d a b).1.isEmpty else !(elems d a b).1.isEmpty) = true := by cases (elems d a b).1 <;> rfl
    rw [p1, list_t p2, p3, lst_plain, isCells_cells, p4, ofCells_cells, p5, hz]
    exact mV_ok p6
  · cases hF
theorem k10_30 : MethOk Tryz.prog G0 10 P30 := meth_known (D := noLive) (m := 100) (loops := 90) (n := 20) hm hn G0_plain kX3 kY3 fun d ar x d' hF => by
  unfold P30 at hF
  split at hF
  · rename_i a b tt
    simp only [Option.some.injEq, Prod.mk.injEq] at hF
    obtain ⟨h1, rfl, rfl⟩ := hF
    obtain ⟨p1, h1⟩ := Bool.and_eq_true_iff.1 h1
    obtain ⟨p2, h1⟩ := Bool.and_eq_true_iff.1 h1
    obtain ⟨p3, p4⟩ := Bool.and_eq_true_iff.1 h1
    refine (t30 d a b tt).trans ?_
    rw [p1, p2, p3, lst_plain, isCells_cells, ofCells_cells]
    exact mV_ok p4
  · cases hF
theorem k10_22 : MethOk Tryz.prog G0 10 P22 := meth_known (D := noLive) (m := 100) (loops := 90) (n := 20) hm hn G0_plain kX3 kY3 fun d ar x d' hF => by
  unfold P22 at hF
  split at hF
  · rename_i a b c e tt
    simp only [Option.some.injEq, Prod.mk.injEq] at hF
    obtain ⟨h1, rfl, rfl⟩ := hF
    obtain ⟨p1, h1⟩ := Bool.and_eq_true_iff.1 h1
    obtain ⟨p2, h1⟩ := Bool.and_eq_true_iff.1 h1
    obtain ⟨p3, h1⟩ := Bool.and_eq_true_iff.1 h1
    obtain ⟨p4, p5⟩ := Bool.and_eq_true_iff.1 h1
    refine (t22 d a b c e tt).trans ?_
    have hl := Nat.le_of_ble_eq_true p4
    rw [p1, list_t p2, p3]
    unfold apD at p5 ⊢
    generalize (elems d a b).1 = l at *
    rw [Nat.zero_add, show Nat.ble l.length 1073741824 = true from Nat.ble_eq_true_of_le (by omega), cellsA_cut l l.length rfl]
    show ifK ((cellsA l).all AV.single) _ = _
    rw [cellsA_single]
    cases l with
    | nil => rfl
    | cons v l =>
      show optK _ (cutN ((v :: l).length * 2) 0 (cellsA (v :: l))) = _
      rw [cellsA_cut (v :: l) _ rfl]
      show ifK (Nat.blt 0 (v :: l).length && AV.plains (cellsA (v :: l))) (ifK (isCells (cellsA (v :: l)) (v :: l).length && Nat.ble (v :: l).length 900) (mV (downOf (ofCells (cellsA (v :: l))) (v :: l).length d (c, e)))) = _
      rw [cellsA_plains, isCells_cells, p4, ofCells_cells, show Nat.blt 0 (v :: l).length = true by simp]
      exact mV_ok p5
  · cases hF
def P10 := orF P19 (orF P20 (orF P21 (orF P22 (orF P29 (orF P30 (orF P33 F57))))))
theorem k10 : MethOk Tryz.prog G0 10 P10 := meth_or k10_19 (meth_or k10_20 (meth_or k10_21 (meth_or k10_22 (meth_or k10_29 (meth_or k10_30 (meth_or k10_33 k57))))))
end Go.Am.Sto
end
