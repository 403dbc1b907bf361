/- How many arguments primitives take. -/
import Derived.Test.YtlibahklbbachaaGreatDoorEqu
import Derived.Test.YtlibahklbbachaaGreatDoorLst
import Derived.Test.YtlibahklbbachaaGreatDoorMak
section
set_option autoImplicit false
set_option maxRecDepth 100000
namespace Go.Am.Sto
open Go Go.Am Go.Proofs

def F22 : List AV → Option AV
  | [.int .i64 12] => some (.tup [.int .i64 (2), .int .i64 (2)])
  | [.int .i64 13] => some (.tup [.int .i64 (1), .int .i64 (1)])
  | [.int .i64 14] => some (.tup [.int .i64 (1), .int .i64 (1)])
  | [.int .i64 16] => some (.tup [.int .i64 (2), .int .i64 (2)])
  | [.int .i64 19] => some (.tup [.int .i64 (0), .int .i64 (-1)])
  | [.int .i64 20] => some (.tup [.int .i64 (1), .int .i64 (1)])
  | [.int .i64 21] => some (.tup [.int .i64 (1), .int .i64 (1)])
  | [.int .i64 22] => some (.tup [.int .i64 (0), .int .i64 (-1)])
  | [.int .i64 25] => some (.tup [.int .i64 (2), .int .i64 (2)])
  | [.int .i64 26] => some (.tup [.int .i64 (3), .int .i64 (3)])
  | [.int .i64 29] => some (.tup [.int .i64 (1), .int .i64 (1)])
  | [.int .i64 30] => some (.tup [.int .i64 (1), .int .i64 (1)])
  | [.int .i64 33] => some (.tup [.int .i64 (2), .int .i64 (2)])
  | [.int .i64 49] => some (.tup [.int .i64 (1), .int .i64 (1)])
  | [.int .i64 50] => some (.tup [.int .i64 (1), .int .i64 (1)])
  | [.int .i64 51] => some (.tup [.int .i64 (2), .int .i64 (2)])
  | [.int .i64 57] => some (.tup [.int .i64 (1), .int .i64 (1)])
  | _ => none
theorem ar12 : bodyK Tryz.prog G0 .none 5 8 noLive Res.val? 3 Tryz.prog.funcs[22]? [.int .i64 12] St.empty = some (.tup [.int .i64 (2), .int .i64 (2)]) := by kernel_rfl
theorem ar13 : bodyK Tryz.prog G0 .none 5 8 noLive Res.val? 3 Tryz.prog.funcs[22]? [.int .i64 13] St.empty = some (.tup [.int .i64 (1), .int .i64 (1)]) := by kernel_rfl
theorem ar14 : bodyK Tryz.prog G0 .none 5 8 noLive Res.val? 3 Tryz.prog.funcs[22]? [.int .i64 14] St.empty = some (.tup [.int .i64 (1), .int .i64 (1)]) := by kernel_rfl
theorem ar16 : bodyK Tryz.prog G0 .none 5 8 noLive Res.val? 3 Tryz.prog.funcs[22]? [.int .i64 16] St.empty = some (.tup [.int .i64 (2), .int .i64 (2)]) := by kernel_rfl
theorem ar19 : bodyK Tryz.prog G0 .none 5 8 noLive Res.val? 3 Tryz.prog.funcs[22]? [.int .i64 19] St.empty = some (.tup [.int .i64 (0), .int .i64 (-1)]) := by kernel_rfl
theorem ar20 : bodyK Tryz.prog G0 .none 5 8 noLive Res.val? 3 Tryz.prog.funcs[22]? [.int .i64 20] St.empty = some (.tup [.int .i64 (1), .int .i64 (1)]) := by kernel_rfl
theorem ar21 : bodyK Tryz.prog G0 .none 5 8 noLive Res.val? 3 Tryz.prog.funcs[22]? [.int .i64 21] St.empty = some (.tup [.int .i64 (1), .int .i64 (1)]) := by kernel_rfl
theorem ar22 : bodyK Tryz.prog G0 .none 5 8 noLive Res.val? 3 Tryz.prog.funcs[22]? [.int .i64 22] St.empty = some (.tup [.int .i64 (0), .int .i64 (-1)]) := by kernel_rfl
theorem ar25 : bodyK Tryz.prog G0 .none 5 8 noLive Res.val? 3 Tryz.prog.funcs[22]? [.int .i64 25] St.empty = some (.tup [.int .i64 (2), .int .i64 (2)]) := by kernel_rfl
theorem ar26 : bodyK Tryz.prog G0 .none 5 8 noLive Res.val? 3 Tryz.prog.funcs[22]? [.int .i64 26] St.empty = some (.tup [.int .i64 (3), .int .i64 (3)]) := by kernel_rfl
theorem ar29 : bodyK Tryz.prog G0 .none 5 8 noLive Res.val? 3 Tryz.prog.funcs[22]? [.int .i64 29] St.empty = some (.tup [.int .i64 (1), .int .i64 (1)]) := by kernel_rfl
theorem ar30 : bodyK Tryz.prog G0 .none 5 8 noLive Res.val? 3 Tryz.prog.funcs[22]? [.int .i64 30] St.empty = some (.tup [.int .i64 (1), .int .i64 (1)]) := by kernel_rfl
theorem ar33 : bodyK Tryz.prog G0 .none 5 8 noLive Res.val? 3 Tryz.prog.funcs[22]? [.int .i64 33] St.empty = some (.tup [.int .i64 (2), .int .i64 (2)]) := by kernel_rfl
theorem ar49 : bodyK Tryz.prog G0 .none 5 8 noLive Res.val? 3 Tryz.prog.funcs[22]? [.int .i64 49] St.empty = some (.tup [.int .i64 (1), .int .i64 (1)]) := by kernel_rfl
theorem ar50 : bodyK Tryz.prog G0 .none 5 8 noLive Res.val? 3 Tryz.prog.funcs[22]? [.int .i64 50] St.empty = some (.tup [.int .i64 (1), .int .i64 (1)]) := by kernel_rfl
theorem ar51 : bodyK Tryz.prog G0 .none 5 8 noLive Res.val? 3 Tryz.prog.funcs[22]? [.int .i64 51] St.empty = some (.tup [.int .i64 (2), .int .i64 (2)]) := by kernel_rfl
theorem ar57 : bodyK Tryz.prog G0 .none 5 8 noLive Res.val? 3 Tryz.prog.funcs[22]? [.int .i64 57] St.empty = some (.tup [.int .i64 (1), .int .i64 (1)]) := by kernel_rfl
theorem k22 : ∀ (args : List AV) (s : St) (E : Env) (w : World) (vs : List Value), Rel E s w → GlobOk E G0 w → VRL E args vs → ResOk Tryz.prog E s w 22 vs (pureX F22 args s) := flat_known (D := noLive) (m := 3) (loops := 5) (n := 8) hm hn G0_plain (KnownOk.none _ _) fun ar x hF => by
  unfold F22 at hF
  split at hF
  · cases hF; exact ⟨rfl, rfl, ar12⟩
  · cases hF; exact ⟨rfl, rfl, ar13⟩
  · cases hF; exact ⟨rfl, rfl, ar14⟩
  · cases hF; exact ⟨rfl, rfl, ar16⟩
  · cases hF; exact ⟨rfl, rfl, ar19⟩
  · cases hF; exact ⟨rfl, rfl, ar20⟩
  · cases hF; exact ⟨rfl, rfl, ar21⟩
  · cases hF; exact ⟨rfl, rfl, ar22⟩
  · cases hF; exact ⟨rfl, rfl, ar25⟩
  · cases hF; exact ⟨rfl, rfl, ar26⟩
  · cases hF; exact ⟨rfl, rfl, ar29⟩
  · cases hF; exact ⟨rfl, rfl, ar30⟩
  · cases hF; exact ⟨rfl, rfl, ar33⟩
  · cases hF; exact ⟨rfl, rfl, ar49⟩
  · cases hF; exact ⟨rfl, rfl, ar50⟩
  · cases hF; exact ⟨rfl, rfl, ar51⟩
  · cases hF; exact ⟨rfl, rfl, ar57⟩
  · cases hF
end Go.Am.Sto
end
section
set_option autoImplicit false
set_option maxRecDepth 100000
namespace Go.Am.Sto
open Go Go.Am Go.Proofs

def F38x := orF F38 F38v
theorem k38x : MethOk Tryz.prog G0 38 F38x := meth_or k38 k38v
def pureK {β : Type} (F : List AV → Option AV) (ar : List AV) (s : St) (kr : Res → Option β) : Option β := kr (pureX F ar s)
theorem addH' {β : Type} {X : Known} {Y : KnownK β} (hY : KnownKOk X Y) (f : FuncId) {h : List AV → St → Res} {hk : List AV → St → (Res → Option β) → Option β}
    (hh : ∀ args s (kr kr' : Res → Option β), (∀ r, Le (kr r) (kr' r)) → Le (hk args s kr) (kr' (h args s))) : KnownKOk (X.add f h) (Y.add f hk) := by
  intro g q hq
  unfold KnownK.add at hq
  rcases Bool.eq_false_or_eq_true (Nat.beq g f) with hb | hb
  · rw [cond_of_true hb] at hq
    cases hq
    exact ⟨h, by unfold Known.add; rw [cond_of_true hb], hh⟩
  · rw [cond_of_false hb] at hq
    obtain ⟨h', h1, h2⟩ := hY g q hq
    exact ⟨h', by unfold Known.add; rw [cond_of_false hb]; exact h1, h2⟩
theorem addP {β : Type} {X : Known} {Y : KnownK β} (hY : KnownKOk X Y) (f : FuncId) (F : List AV → Option AV) : KnownKOk (X.add f (pureX F)) (Y.add f (pureK F)) := addH' hY f fun _ _ _ _ h => h _
theorem addA {β : Type} {X : Known} {Y : KnownK β} (hY : KnownKOk X Y) (f : FuncId) (c : List AV → St → Bool) (r : Res) : KnownKOk (X.add f (atX c r)) (Y.add f (atK c r)) := addH' hY f (atK_le c r)
def X3 : Known := ((((((X1.add 38 (methX F38x)).add 86 (methX F86)).add 84 (methX F84)).add 41 (methX F41)).add 93 (methX F93)).add 116 (methX F116)).add 22 (pureX F22)
def Y3 {β : Type} : KnownK β := ((((((Y1.add 38 (methK F38x)).add 86 (methK F86)).add 84 (methK F84)).add 41 (methK F41)).add 93 (methK F93)).add 116 (methK F116)).add 22 (pureK F22)
theorem kX3 : KnownOk Tryz.prog G0 X3 := ((((((kX1.add k38x).add k86).add k84).add k41).add k93).add k116).add k22
theorem kY3 {β : Type} : KnownKOk X3 (Y3 : KnownK β) := addP (addK (addK (addK (addK (addK (addK kY1 38 F38x) 86 F86) 84 F84) 41 F41) 93 F93) 116 F116) 22 F22
end Go.Am.Sto
end
section
set_option autoImplicit false
set_option maxRecDepth 100000
namespace Go.Am.Sto
open Go Go.Am Go.Proofs

abbrev ap (P : Program) (d : Hid) (op : Int) (cs : List AV) (n : Nat) (tt nl : Bool) : Option R := bodyY P G0 X3 Y3 90 20 noLive Res.meth? 100 P.funcs[10]? [.hptr 0, .int .i64 op, .lst cs n tt nl] (St.one d)
abbrev v1 (a b : Int) : List AV := [.int .i64 a, .int .i64 b]
abbrev v2 (a b c e : Int) : List AV := [.int .i64 a, .int .i64 b, .int .i64 c, .int .i64 e]
/-- are the arguments values? -/
abbrev okp (d : Hid) (cs : List AV) (n : Nat) : Bool := isCells cs n && (Nat.ble n 900 && okAll d.rows.length (ofCells cs))
def gV (d : Hid) (t n e : Int) : Option R := some (.tup [.agg [.int .i64 t, .int .i64 n], .int .i64 e], d)
abbrev listB (d : Hid) (a b : Int) : Bool := (elemsO d a b).isSome && true
/-- what was made, or the error -/
abbrev mV (D : (V2 × Int) × Hid) : Option R := byB (!eqI D.1.2 0) (gV D.2 0 0 D.1.2) (gV D.2 D.1.1.1 D.1.1.2 0)
section
variable (d : Hid) (a b c e : Int) (cs : List AV) (n : Nat) (tt nl : Bool)
theorem t21 : ap Tryz.prog d 21 (v1 a b) 1 tt false = ifK (okp d (v1 a b) 1) (ifK (listB d a b) (byB (eqI (elems d a b).2.1 0) (gV d 4 (.ofNat (elems d a b).1.length) 0) (gV d 0 0 10))) := by kernel_rfl
theorem t20 : ap Tryz.prog d 20 (v1 a b) 1 tt false = ifK (okp d (v1 a b) 1) (ifK (listB d a b) (byB (eqI (elems d a b).2.1 0) (gV d 1 0 0) (gV d 2 0 0))) := by kernel_rfl
theorem t33 : ap Tryz.prog d 33 (v2 a b c e) 2 tt false = ifK (okp d (v2 a b c e) 2) (ifK (eqvO d.rows 400 100000 (a, b) (c, e)).isSome (gV d 1 0 0)) := by kernel_rfl
theorem t19 : ap Tryz.prog d 19 cs n tt nl = ifK (AV.plain (.lst cs n tt nl)) (ifK (okp d cs n) (ifK (AV.same (.lst cs n tt nl) (.lst cs n tt nl) && true) (ifK (AV.plain (.lst cs n tt nl)) (ifK (isCells cs n && Nat.ble n 900) (mV (downOf (ofCells cs) n d (0, 0))))))) := by kernel_rfl
theorem t29 : ap Tryz.prog d 29 (v1 a b) 1 tt false = ifK (okp d (v1 a b) 1) (ifK (listB d a b) (byB (eqI (elems d a b).2.1 0)
   (ifK (AV.plain (lstA (elems d a b).1)) (ifK (isCells (cellsA (elems d a b).1) (elems d a b).1.length && (Nat.ble (elems d a b).1.length 900 && (okAll d.rows.length (ofCells (cellsA (elems d a b).1)) && (bif (elems d a b).1.length.beq 0 then (elems d a b).1.isEmpty else !(elems d a b).1.isEmpty))))
     (mV (mkOf d 2 (ofCells (cellsA (elems d a b).1)))))) (gV d 0 0 10))) := by kernel_rfl
theorem t30 : ap Tryz.prog d 30 (v1 a b) 1 tt false = ifK (okp d (v1 a b) 1) (byB (!eqI (kindOf d.rows a b) 2) (gV d 0 0 10) (ifK (Nat.ble (slotsO d a b).length 900 && true)
   (ifK (AV.plain (lstA (slotsO d a b))) (ifK (isCells (cellsA (slotsO d a b)) (slotsO d a b).length && Nat.ble (slotsO d a b).length 900) (mV (downOf (ofCells (cellsA (slotsO d a b))) (slotsO d a b).length d (0, 0))))))) := by kernel_rfl
theorem t22 : ap Tryz.prog d 22 (v2 a b c e) 2 tt false = ifK (okp d (v2 a b c e) 2) (ifK (listB d a b) (byB (eqI (elems d a b).2.1 0)
  (ifK (Nat.ble (0 + (elems d a b).1.length) 1073741824) (optK (fun new => ifK (new.all AV.single) (byB (Nat.beq (elems d a b).1.length 0) (gV d c e 0)
    (optK (fun cs => ifK (Nat.blt 0 (0 + (elems d a b).1.length) && AV.plains cs) (ifK (isCells cs (0 + (elems d a b).1.length) && Nat.ble (0 + (elems d a b).1.length) 900) (mV (downOf (ofCells cs) (0 + (elems d a b).1.length) d (c, e)))))
      (cutN ((0 + (elems d a b).1.length) * 2) 0 new)))) (cutN ((elems d a b).1.length * 2) 0 (cellsA (elems d a b).1)))) (gV d 0 0 10))) := by kernel_rfl
end
end Go.Am.Sto
end
