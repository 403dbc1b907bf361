import Derived.Test.YtlibahklbbachaaGreatDoorRf16
import Derived.Test.YtlibahklbbachaaGreatDoorRf19
import Derived.Test.YtlibahklbbachaaGreatDoorRf17
import Derived.Test.YtlibahklbbachaaGreatDoorRf18
import Derived.Test.YtlibahklbbachaaGreatDoorRf15
set_option autoImplicit false
set_option maxRecDepth 100000
set_option linter.unusedSimpArgs false
set_option linter.unusedVariables false
section
namespace Go.Am.Sto
open Go Go.Am Go.Proofs
theorem meth_mono {P : Program} {G : Glob} {f : FuncId} {F F' : Hid → List AV → Option (Bool × AV × Hid)} (h : MethOk P G f F) (hF : ∀ d ar x d', F' d ar = some (true, x, d') → F d ar = some (true, x, d')) : MethOk P G f F' := by
 intro args s E w vs h1 hG ha
 have k := h args s E w vs h1 hG ha
 unfold methX at k ⊢
 split
 ·rename_i n hn
  simp only [hn] at k
  split
  ·rename_i d hd
   simp only [hd] at k
   split
   ·rename_i p hp
    obtain ⟨br, q1, q2⟩ := convML_eq (δ := Bool × AV × Hid) hp
    rw [q2] at k
    obtain ⟨c, x, d'⟩ := p
    cases c with
    | false => trivial
    | true => rw [hF d br x d' q1] at k; exact k
   ·trivial
  ·trivial
 ·trivial
end Go.Am.Sto
end
section
namespace Go.Am.Sto
open Go Go.Am Go.Proofs
def F86z (d : Hid) : List AV → Option (Bool × AV × Hid)
 | [.ptrL [.hptr 0, u] 0, .agg [.int .i64 t, .int .i64 n]] => some (kz d t n && AV.under 2 (.ptrL [.hptr 0, u] 0), .tup [.lst [] 0 false true, .bool (eqI t 0)], d)
 | _ => none
theorem walk_z {d : Hid} {t n : Int} (h : kz d t n = true) : elemsO d t n = some ([], (t, n)) := by
 unfold elemsO
 have : eqI (kindOf d.rows t n) 1 = false := by rw [eqI_of h]; rfl
 show walk d.rows (999 + 1) (usedOf d) (t, n) = _
 simp only [walk, this]
theorem k86z : MethOk Tryz.prog G0 86 F86z := meth_mono k86 fun d ar x d' h => by
 unfold F86z at h
 split at h
 case h_2 => cases h
 rename_i u t n
 simp only [Option.some.injEq, Prod.mk.injEq, Bool.and_eq_true] at h
 obtain ⟨⟨h1, h2⟩, rfl, rfl⟩ := h
 have e := walk_z h1
 have e2 : elems d t n = ([], (t, n)) := by unfold elems; rw [e]
 show some ((elemsO d t n).isSome && AV.under 2 (.ptrL [.hptr 0, u] 0), AV.tup [lstA (elems d t n).1, .bool (eqI (elems d t n).2.1 0)], d) = _
 rw [e, e2, h2]; rfl
def F38z := orF F38y (orF F38t F38u)
section
variable (isn : Int → Int → Bool) (ng : Int → Bool) (ls : Int → List AV) (ln : Int → Nat) (le : Int → Bool) (g : Bool → List AV → Nat → Bool → Bool) (v : Bool → List AV → Int)
def XW : Known := ((XZ isn ng ls ln le g v).add 86 (methX F86z)).add 38 (methX F38z)
def YW {β : Type} : KnownK β := ((YZ isn ng ls ln le g v).add 86 (methK F86z)).add 38 (methK F38z)
def apW (P : Program) (tt nl : Bool) (d : Hid) (op : Int) (cs : List AV) (n : Nat) : Option R := bodyY P G2 (XW isn ng ls ln le g v) (YW isn ng ls ln le g v) 90 20 noLive Res.meth? 100 P.funcs[10]? [.hptr 0, .int .i64 op, .lst cs n tt nl] (St.one d)
variable (tt nl : Bool) (d : Hid) (a b c e f h : Int) (cs : List AV) (n : Nat)
theorem w19 : apW isn ng ls ln le g v Tryz.prog tt nl d 19 cs n = ifK (AV.plain (.lst cs n tt nl)) (ifK (okp d cs n) (ifK (AV.same (.lst cs n tt nl) (.lst cs n tt nl) && true) (ifK (AV.plain (.lst cs n tt nl)) (ifK (isCells cs n && Nat.ble n 900) (mV (downOf (ofCells cs) n d (0, 0))))))) := by kernel_rfl
theorem w57 : apW isn ng ls ln le g v Tryz.prog tt false d 57 (v1 a b) 1 = ifK (okp d (v1 a b) 1) (ifK (kz d a b && true) (byB (eqI a 0) (gV d 0 0 0) (E10 d))) := by kernel_rfl
theorem w42e : apW isn ng ls ln le g v Tryz.prog tt nl d 42 [] 0 = mV (mkOf d 4 []) := by kernel_rfl
theorem w22e : apW isn ng ls ln le g v Tryz.prog tt nl d 22 [] 0 = gV d 0 0 0 := by kernel_rfl
theorem w23 : apW isn ng ls ln le g v Tryz.prog tt nl d 23 cs n = ifK (AV.plain (.lst cs n tt nl)) (ifK (okp d cs n) (ifK (AV.plain (.lst cs n tt nl)) (ifK (isCells cs n && (Nat.ble n 900 && (okAll d.rows.length (ofCells cs) && (bif n.beq 0 then nl else !nl)))) (mV (mkOf d 2 (ofCells cs)))))) := by kernel_rfl
theorem w42 : apW isn ng ls ln le g v Tryz.prog tt false d 42 (.int .i64 a :: .int .i64 b :: cs) (n + 1) = ifK (AV.plain (.lst (.int .i64 a :: .int .i64 b :: cs) (n + 1) tt false)) (ifK (okp d (.int .i64 a :: .int .i64 b :: cs) (n + 1)) (ifK (kz d a b) (E10 d))) := by kernel_rfl
def F41e : List AV → Option AV
 | [.lst [] 0 _ _, _] => some (.int .i64 (-1))
 | _ => none
def X41 (ar : List AV) (s : St) : Res := match F41e ar with | some x => .ret x s | none => methX F41 ar s
def K41 {β : Type} (ar : List AV) (s : St) (kr : Res → Option β) : Option β := match F41e ar with | some x => kr (.ret x s) | none => methK F41 ar s kr
theorem i41 (tt nl : Bool) (f : AV) (s : St) : bodyC Tryz.prog G0 (callN Tryz.prog G0 .none 3 3) 3 Tryz.prog.funcs[41]? [.lst [] 0 tt nl, f] s = .ret (.int .i64 (-1)) s := by kernel_rfl
theorem k41x : ∀ (args : List AV) (s : St) (E : Env) (w : World) (vs : List Value), Rel E s w → GlobOk E G0 w → VRL E args vs → ResOk Tryz.prog E s w 41 vs (X41 args s) := by
 intro args s E w vs h hG ha
 unfold X41
 cases hF : F41e args with
 | none => exact k41 args s E w vs h hG ha
 | some x =>
  have := pure_known (F := F41e) (f := 41) hm hn (KnownOk.none Tryz.prog G0) (loops := 3) (n := 3) (fun args s x _ hx => by
   unfold F41e at hx
   split at hx
   case h_2 => cases hx
   cases hx
   exact ⟨s, i41 _ _ _ s, fun _ _ => rfl, rfl⟩) args s E w vs h hG ha
  unfold pureX at this
  rw [hF] at this
  exact this
theorem k41x_le {β : Type} (ar : List AV) (s : St) (kr kr' : Res → Option β) (h : ∀ r, Le (kr r) (kr' r)) : Le (K41 ar s kr) (kr' (X41 ar s)) := by
 unfold K41 X41
 cases F41e ar with
 | none => exact methK_le F41 ar s kr kr' h
 | some x => exact h _
def XV41 : Known := (XW isn ng ls ln le g v).add 41 X41
def YV41 {β : Type} : KnownK β := (YW isn ng ls ln le g v).add 41 K41
theorem w45 : bodyY Tryz.prog G2 (XV41 isn ng ls ln le g v) (YV41 isn ng ls ln le g v) 90 20 noLive Res.meth? 100 Tryz.prog.funcs[10]? [.hptr 0, .int .i64 45, .lst (v1 a b) 1 tt false] (St.one d) = ifK (okp d (v1 a b) 1) (ifK (kz d a b && true) (byB (eqI a 0) (mV (mkOf d 4 [])) (E10 d))) := by kernel_rfl
end
end Go.Am.Sto
end
section
namespace Go.Am.Sto
open Go Go.Am Go.Proofs
def badI (n : Nat) (l : List V2) : Nat := l.findIdx fun p => !sndB n p.1 p.2
theorem main41n (d : Hid) (l : List V2) (tt nl : Bool) : ∀ (N i : Nat), l.length < i + N → i ≤ badI d.rows.length l → badI d.rows.length l < l.length → l.length ≤ 100000 →
  L41 Tryz.prog N (tI (.lst (cellsA l) l.length tt nl) l.length (.ofNat i)) (St.one d) = some (.int .i64 (.ofNat (badI d.rows.length l)), d)
 | 0, i, h1, h2, h3, _ => absurd h1 (by omega)
 | N + 1, i, h1, h2, h3, h4 => by
  have hlt : i < l.length := by omega
  obtain ⟨c1, c2⟩ := cells_cut l i _ (List.getElem?_eq_getElem hlt)
  have hb : Nat.blt i l.length = true := Nat.ble_eq_true_of_le hlt
  have hb2 : Nat.ble l.length i = false := by
   cases hx : Nat.ble l.length i with
   | false => rfl
   | true => have := Nat.le_of_ble_eq_true hx; omega
  rw [step41, leN, hb2, c1, c2, hb]
  show byB (sndB d.rows.length (l[i]).1 (l[i]).2) (ifK (AV.unders 1 (cellsA l)) (L41 Tryz.prog N (tI _ _ (IntKind.i64.wrap (Int.ofNat i + 1))) _)) (some (.int .i64 (.ofNat i), d)) = _
  by_cases he : i = badI d.rows.length l
  ·have hp : (!sndB d.rows.length (l[badI d.rows.length l]).1 (l[badI d.rows.length l]).2) = true := List.findIdx_getElem (xs := l) (p := fun q : V2 => !sndB d.rows.length q.1 q.2) (w := h3)
   have : sndB d.rows.length (l[i]).1 (l[i]).2 = false := by
    subst he
    simpa using hp
   rw [this, ← he]
  ·have hn := List.not_of_lt_findIdx (xs := l) (p := fun q : V2 => !sndB d.rows.length q.1 q.2) (i := i) (show i < badI d.rows.length l by omega)
   have : sndB d.rows.length (l[i]).1 (l[i]).2 = true := by simpa using hn
   rw [this, cellsA_unders, wrap64 (by simp only [Int.ofNat_eq_natCast]; omega) (by simp only [Int.ofNat_eq_natCast]; omega)]
   exact main41n d l tt nl N (i + 1) (by omega) (by omega) h3 h4
def bad (d : Hid) (cs : List AV) (m : Nat) : Bool := isCells cs m && (Nat.ble m 900 && Nat.blt (badI d.rows.length (ofCells cs)) m)
def F41n (d : Hid) : List AV → Option (Bool × AV × Hid)
 | [.lst cs m _ _, .fn (.func 24) [] [.ptrL [.hptr 0] 0]] => some (bad d cs m, .int .i64 (.ofNat (badI d.rows.length (ofCells cs))), d)
 | _ => none
theorem k41n : MethOk Tryz.prog G0 41 F41n := meth_known (D := D41) (m := 1000) (loops := 5) (n := 8) hm hn G0_plain kX1 kY1 fun d ar x d' hF => by
 unfold F41n at hF
 split at hF
 case h_2 => cases hF
 rename_i cs m tt nl
 simp only [Option.some.injEq, Prod.mk.injEq, bad, Bool.and_eq_true] at hF
 obtain ⟨⟨h1, h2, h5⟩, rfl, rfl⟩ := hF
 obtain ⟨h3, h4⟩ := isCells_eq h1
 have hm9 : m ≤ 900 := Nat.le_of_ble_eq_true h2
 have h5 : badI d.rows.length (ofCells cs) < m := by simpa using h5
 rw [start41]
 have := main41n d (ofCells cs) tt nl 1000 0 (by omega) (by omega) (by omega) (by omega)
 rw [← h3, h4] at this
 exact this
def noneK {β : Type} (_ : List AV) (_ : St) (_ : Res → Option β) : Option β := none
def failX (_ : List AV) (_ : St) : Res := .fail
def X10n : Known := ((X1.add 22 (pureX FAr)).add 41 (methX F41n)).add 27 failX
def Y10n {β : Type} : KnownK β := ((Y1.add 22 (pureK FAr)).add 41 (methK F41n)).add 27 noneK
def X10s : Known := ((X1.add 22 (pureX FAr)).add 41 (methX F41)).add 27 failX
def Y10s {β : Type} : KnownK β := ((Y1.add 22 (pureK FAr)).add 41 (methK F41)).add 27 noneK
section
variable (d : Hid) (op : Int) (cs : List AV) (n : Nat) (tt nl : Bool)
abbrev inOp (x : Option R) : Option R := byB (!leI 0 op) (gV d 0 0 1) (byB (leI 64 op) (gV d 0 0 1) x)
theorem tForm : bodyY Tryz.prog G0 X10n Y10n 90 20 noLive Res.meth? 100 Tryz.prog.funcs[10]? [.hptr 0, .int .i64 op, .lst cs n tt nl] (St.one d) =
  inOp d op (ifK (AV.plain (.lst cs n tt nl)) (ifK (bad d cs n) (byB (leI 0 (.ofNat (badI d.rows.length (ofCells cs)))) (gV d 0 0 2) none))) := by kernel_rfl
end
end Go.Am.Sto
end
section
namespace Go.Am.Sto
open Go Go.Am Go.Proofs
abbrev bV (b : Bool) : Option AV := some (.bool b)
theorem t11 (t n : Int) : bodyK Tryz.prog G2 .none 3 8 noLive Res.val? 3 Tryz.prog.funcs[11]? [.ptrL [.int .i64 100, .int .i64 0, mt, mt] 0, .agg [.int .i64 t, .int .i64 n]] St.empty =
  byB (eqI t 0) (bV (eqI n 0)) (byB (eqI t 1) (bV (eqI n 0)) (byB (eqI t 2) (bV (eqI n 0)) (byB (eqI t 3) (bV (eqI n 0)) (byB (eqI t 9) (bV (eqI n 0)) (byB (eqI t 4) (bV true)
   (byB (eqI t 5) (byB (leI 0 n) (byB (leI n 1114111) (byB (leI 55296 n) (byB (leI n 57343) (bV false) (bV true)) (bV true)) (bV false)) (bV false))
    (byB (eqI t 6) (byB (leI 0 n) (bV (!leI (.ofNat 0) n)) (bV false)) (byB (eqI t 7) (byB (leI 0 n) (bV (!leI (.ofNat 0) n)) (bV false)) (byB (eqI t 8) (byB (leI 0 n) (bV (leI n 255)) (bV false)) (bV false)))))))))) := by kernel_rfl
def F11 : List AV → Option AV
 | [.ptrL [.int .i64 100, .int .i64 0, .lst [] 0 true true, .lst [] 0 true true] 0, .agg [.int .i64 t, .int .i64 n]] => some (.bool (sndB 0 t n))
 | _ => none
theorem eqI_no {a b : Int} (h : a ≠ b) : eqI a b = false := by
 cases hh : eqI a b with
 | false => rfl
 | true => exact absurd (eqI_of hh) h
theorem k11 : ReadOk Tryz.prog G2 11 F11 := read_known (D := noLive) (m := 3) (loops := 3) (n := 8) hm hn G2_plain (KnownOk.none _ _) fun ar x hF => by
 unfold F11 at hF
 split at hF
 case h_2 => cases hF
 rename_i t n
 cases hF
 refine ⟨rfl, (t11 t n).trans ?_⟩
 by_cases h8 : t = 8
 ·subst h8
  show byB (leI 0 n) (bV (leI n 255)) (bV false) = some (.bool (byB (leI 0 n) (leI n 255) false))
  cases leI 0 n <;> rfl
 ·unfold sndB scal
  rw [eqI_no h8]
  have h00 : leI 0 n = leI (.ofNat 0) n := rfl
  cases eqI t 0 <;> cases eqI t 1 <;> cases eqI t 2 <;> cases eqI t 3 <;> cases eqI t 9 <;> cases eqI t 4 <;> try rfl
  cases eqI t 5 with
  | true => cases leI 0 n <;> cases leI n 1114111 <;> cases leI 55296 n <;> cases leI n 57343 <;> rfl
  | false =>
   cases eqI t 6 with
   | true => rw [h00]; cases leI (.ofNat 0) n <;> rfl
   | false =>
    cases eqI t 7 with
    | true => cases leI 0 n <;> rfl
    | false => rfl
/-! ## No store -/
def F10n : List AV → Option AV
 | [.nilp, .int .i64 _, .lst _ _ _ _] => some (.tup [.agg [.int .i64 0, .int .i64 0], .int .i64 1])
 | _ => none
theorem t10n (op : Int) (cs : List AV) (n : Nat) (tt nl : Bool) : bodyK Tryz.prog G2 (Known.none.add 22 (pureX FAr)) 5 8 noLive Res.val? 5 Tryz.prog.funcs[10]? [.nilp, .int .i64 op, .lst cs n tt nl] St.empty = some (.tup [.agg [.int .i64 0, .int .i64 0], .int .i64 1]) := by kernel_rfl
theorem k10n : ReadOk Tryz.prog G2 10 F10n := read_known (D := noLive) (m := 5) (loops := 5) (n := 8) hm hn G2_plain (kG2 ((KnownOk.none _ _).add k22a)) fun ar x hF => by
 unfold F10n at hF
 split at hF
 case h_2 => cases hF
 cases hF
 exact ⟨rfl, t10n _ _ _ _ _⟩
end Go.Am.Sto
end
section
namespace Go.Am.Sto
open Go Go.Am Go.Proofs
section
variable (c : Hid → List AV → Bool) (t n : Hid → List AV → Int) (D : Hid → List AV → Hid) (d : Hid) (zs : List AV) (m : Nat) (tt nl : Bool)
end
end Go.Am.Sto
end
section
namespace Go.Am.Sto
open Go Go.Am Go.Proofs
section
variable (c : Hid → List AV → Bool) (t n : Hid → List AV → Int) (D : Hid → List AV → Hid) (d : Hid) (tt nl : Bool)
end
end Go.Am.Sto
end
section
namespace Go.Am.Sto
open Go Go.Am Go.Proofs
theorem snd_obj {n i : Nat} (h : i < n) : sndB n 7 (.ofNat i) = true := by
 show byB (leI 0 (.ofNat i)) (!leI (.ofNat n) (.ofNat i)) false = true
 rw [leI_t (show (0 : Int) ≤ Int.ofNat i from Int.natCast_nonneg i), leI_f (show Int.ofNat i < Int.ofNat n by simp; omega)]; rfl
end Go.Am.Sto
end
section
namespace Go.Am.Sto
open Go Go.Am Go.Proofs
section
variable {L u : Int} {d : Hid}
theorem okp_1 {v : V2} (h : sndB d.rows.length v.1 v.2 = true) : okp d (v1 v.1 v.2) 1 = true := by
 show (true && (true && okAll d.rows.length [(v.1, v.2)])) = true
 simp only [okAll, List.all_cons, List.all_nil, h]; rfl
theorem okp_2 {v w : V2} (h : sndB d.rows.length v.1 v.2 = true) (g : sndB d.rows.length w.1 w.2 = true) : okp d (v2 v.1 v.2 w.1 w.2) 2 = true := by
 show (true && (true && okAll d.rows.length [(v.1, v.2), (w.1, w.2)])) = true
 simp only [okAll, List.all_cons, List.all_nil, h, g]; rfl
end
/-! ## Called by their names -/
end Go.Am.Sto
end
section
namespace Go.Am.Sto
open Go Go.Am Go.Proofs
section
variable (c c3 : Hid → List AV → Bool) (t n t3 n3 : Hid → List AV → Int) (D D3 : Hid → List AV → Hid) (la lb : List AV) (ma mb : Nat) (na nb : Bool)
def T4 : Option AV := some (.bool true)
def N4 : Option AV := some (.bool false)
end
end Go.Am.Sto
end
section
namespace Go.Am.Sto
open Go Go.Am Go.Proofs
theorem ifK_t {β : Type} {c : Bool} (h : c = true) (x : Option β) : ifK c x = x := by rw [h]; rfl
theorem byB_t {β : Type} {c : Bool} (h : c = true) (x y : β) : byB c x y = x := by rw [h]
theorem byB_f {β : Type} {c : Bool} (h : c = false) (x y : β) : byB c x y = y := by rw [h]
end Go.Am.Sto
end
section
namespace Go.Am.Sto
open Go Go.Am Go.Proofs
def apV (c : Hid → List AV → Bool) (t n e : Hid → List AV → Int) (D : Hid → List AV → Hid) (d : Hid) (ar : List AV) : Option (Bool × AV × Hid) := some (c d ar, .tup [.agg [.int .i64 (t d ar), .int .i64 (n d ar)], .int .i64 (e d ar)], D d ar)
section
variable (c c3 ca : Hid → List AV → Bool) (t n t3 n3 ta na ea : Hid → List AV → Int) (D D3 Da : Hid → List AV → Hid)
end
end Go.Am.Sto
end
section
namespace Go.Am.Sto
open Go Go.Am Go.Proofs
def rowX6 (r : Nat) (vals : List AV) : AObj := .row { vals := vals, root := r, pos := 0, ep := 0, fep := 0, ext := vals.length, solo := true, ty := 29 }
section
variable (c c3 ca : Hid → List AV → Bool) (t n t3 n3 ta na ea : Hid → List AV → Int) (D D3 Da : Hid → List AV → Hid)
variable (la : List AV) (m : Nat) (nl : Bool) (at_ x : Int)
end
end Go.Am.Sto
end
section
namespace Go.Am.Sto
open Go Go.Am Go.Proofs
section
variable (c c3 ca : Hid → List AV → Bool) (t n t3 n3 ta na ea : Hid → List AV → Int) (D D3 Da : Hid → List AV → Hid)
variable (la : List AV) (m : Nat) (nl : Bool) (at_ x : Int)
end
end Go.Am.Sto
end
section
namespace Go.Am.Sto
open Go Go.Am Go.Proofs
end Go.Am.Sto
end
section
namespace Go.Am.Sto
open Go Go.Am Go.Proofs
theorem okAll_1 {n : Nat} {a b : Int} (h : sndB n a b = true) : okAll n [(a, b)] = true := by simp only [okAll, List.all_cons, List.all_nil, h]; rfl
/-! ## vector-ref, vector-set! -/
section
variable {d : Hid} {i : Nat} {o : Ob}
end
/-! ## boxes and pairs -/
section
variable {L u : Int} {d : Hid}
end
section
variable {d : Hid} {i : Nat} {o : Ob}
end
end Go.Am.Sto
end
section
namespace Go.Am.Sto
open Go Go.Am Go.Proofs
def Good (r : Option R) : Prop := ∃ t n e d', r = some (.tup [.agg [.int .i64 t, .int .i64 n], .int .i64 e], d') ∧ e ≠ 2 ∧ e ≠ 11
theorem good_gV {d : Hid} {t n e : Int} (h1 : e ≠ 2) (h2 : e ≠ 11) : Good (gV d t n e) := ⟨t, n, e, d, rfl, h1, h2⟩
theorem good_byB {u : Bool} {a b : Option R} (h1 : Good a) (h2 : Good b) : Good (byB u a b) := by cases u <;> assumption
theorem good_byB_t {u : Bool} {a b : Option R} (h : u = true) (h1 : Good a) : Good (byB u a b) := by rw [h]; exact h1
theorem good_ifK {u : Bool} {a : Option R} (h : u = true) (h1 : Good a) : Good (ifK u a) := by rw [h]; exact h1
theorem mk_err (d : Hid) (k : Int) (sl : List V2) (h : okAll d.rows.length sl = true) (hd : ∃ L U, d.nums = [L, U]) : (mkOf d k sl).1.2 ≠ 2 ∧ (mkOf d k sl).1.2 ≠ 11 := by
 obtain ⟨L, U, e⟩ := hd
 unfold mkOf
 rw [e]
 simp only [h]
 cases full L U sl.length
 ·exact ⟨by show (0 : Int) ≠ 2; decide, by show (0 : Int) ≠ 11; decide⟩
 ·exact ⟨by show (16 : Int) ≠ 2; decide, by show (16 : Int) ≠ 11; decide⟩
theorem good_mV {D : (V2 × Int) × Hid} (h1 : D.1.2 ≠ 2) (h2 : D.1.2 ≠ 11) : Good (mV D) := good_byB (good_gV h1 h2) (good_gV (by decide) (by decide))
abbrev d0 : Hid := newHid 100
theorem kind_0 (a b : Int) : kindOf d0.rows a b = 0 := by
 unfold kindOf objAt
 split
 ·rename_i o h
  split at h
  ·simp [newHid] at h
  ·cases h
 ·rfl
theorem kz_0 (a b : Int) : kz d0 a b = true := by unfold kz; rw [kind_0]; rfl
theorem snd_no {a b : Int} (h : sndB d0.rows.length a b = true) : eqI a 6 = false ∧ eqI a 7 = false := by
 refine ⟨?_, ?_⟩
 ·cases h6 : eqI a 6 with
  | false => rfl
  | true => have := eqI_of h6; subst this; cases h
 ·cases h7 : eqI a 7 with
  | false => rfl
  | true =>
   have := eqI_of h7
   subst this
   have h : byB (leI 0 b) (!leI (.ofNat 0) b) false = true := h
   have e : leI (.ofNat 0) b = leI 0 b := rfl
   rw [e] at h
   cases hb : leI 0 b with
   | false => rw [hb] at h; cases h
   | true => rw [hb] at h; cases h
theorem okp0_1 {a b : Int} (h : sndB d0.rows.length a b = true) : okp d0 (v1 a b) 1 = true := okp_1 (v := (a, b)) h
theorem okp0_2 {a b c e : Int} (h : sndB d0.rows.length a b = true) (g : sndB d0.rows.length c e = true) : okp d0 (v2 a b c e) 2 = true := okp_2 (v := (a, b)) (w := (c, e)) h g
theorem list_0 (a b : Int) : listB d0 a b = true := by unfold listB; rw [walk_z (kz_0 a b)]; rfl
theorem el_0 (a b : Int) : elems d0 a b = ([], (a, b)) := by unfold elems; rw [walk_z (kz_0 a b)]
abbrev isnS (t z : Int) : Bool := eqI t 4 && small z
abbrev aZ (P : Program) (tt : Bool) (op : Int) (cs : List AV) (n : Nat) : Option R := apZ isnS ngS lsS lnS leS gTxt valA P tt d0 op cs n
section
variable (tt : Bool) {a b c e f h : Int} (h1 : sndB d0.rows.length a b = true) (h2 : sndB d0.rows.length c e = true) (h3 : sndB d0.rows.length f h = true)
include h1
theorem g11 : Good (aZ Tryz.prog tt 11 (v1 a b) 1) := by
 unfold aZ
 rw [z11]
 exact good_ifK (okp0_1 h1) (good_ifK (kz_0 _ _) (good_byB (good_gV (by decide) (by decide)) (good_gV (by decide) (by decide))))
theorem g13 : Good (aZ Tryz.prog tt 13 (v1 a b) 1) := by
 unfold aZ
 rw [z13]
 exact good_ifK (okp0_1 h1) (good_ifK (kz_0 _ _) (good_gV (by decide) (by decide)))
theorem g14 : Good (aZ Tryz.prog tt 14 (v1 a b) 1) := by
 unfold aZ
 rw [z14]
 exact good_ifK (okp0_1 h1) (good_ifK (kz_0 _ _) (good_gV (by decide) (by decide)))
theorem g17 : Good (aZ Tryz.prog tt 17 (v1 a b) 1) := by
 unfold aZ
 rw [z17]
 exact good_ifK (okp0_1 h1) (good_ifK (kz_0 _ _) (good_gV (by decide) (by decide)))
theorem g18 : Good (aZ Tryz.prog tt 18 (v1 a b) 1) := by
 unfold aZ
 rw [z18]
 exact good_ifK (okp0_1 h1) (good_byB (good_gV (by decide) (by decide)) (good_gV (by decide) (by decide)))
theorem g20 : Good (aZ Tryz.prog tt 20 (v1 a b) 1) := by
 unfold aZ
 rw [z20]
 exact good_ifK (okp0_1 h1) (good_ifK (list_0 _ _) (good_byB (good_gV (by decide) (by decide)) (good_gV (by decide) (by decide))))
theorem g21 : Good (aZ Tryz.prog tt 21 (v1 a b) 1) := by
 unfold aZ
 rw [z21]
 exact good_ifK (okp0_1 h1) (good_ifK (list_0 _ _) (good_byB (good_gV (by decide) (by decide)) (good_gV (by decide) (by decide))))
theorem g27 : Good (aZ Tryz.prog tt 27 (v1 a b) 1) := by
 unfold aZ
 rw [z27]
 exact good_ifK (okp0_1 h1) (good_ifK (kz_0 _ _) (good_gV (by decide) (by decide)))
theorem g28 : Good (aZ Tryz.prog tt 28 (v1 a b) 1) := by
 unfold aZ
 rw [z28]
 exact good_ifK (okp0_1 h1) (good_ifK (kz_0 _ _) (good_gV (by decide) (by decide)))
theorem g30 : Good (aZ Tryz.prog tt 30 (v1 a b) 1) := by
 unfold aZ
 rw [z30]
 exact good_ifK (okp0_1 h1) (good_ifK (kz_0 _ _) (good_gV (by decide) (by decide)))
theorem g34 : Good (aZ Tryz.prog tt 34 (v1 a b) 1) := by
 unfold aZ
 rw [z34]
 exact good_ifK (okp0_1 h1) (good_byB (good_gV (by decide) (by decide)) (good_gV (by decide) (by decide)))
theorem g35 : Good (aZ Tryz.prog tt 35 (v1 a b) 1) := by
 unfold aZ
 rw [z35]
 exact good_ifK (okp0_1 h1) (good_byB (good_gV (by decide) (by decide)) (good_byB (good_gV (by decide) (by decide)) (good_gV (by decide) (by decide))))
theorem g36 : Good (aZ Tryz.prog tt 36 (v1 a b) 1) := by
 unfold aZ
 rw [z36]
 exact good_ifK (okp0_1 h1) (good_byB (good_gV (by decide) (by decide)) (good_gV (by decide) (by decide)))
theorem g37 : Good (aZ Tryz.prog tt 37 (v1 a b) 1) := by
 unfold aZ
 rw [z37]
 exact good_ifK (okp0_1 h1) (good_byB_t (by rw [(snd_no h1).1]; rfl) (good_gV (by decide) (by decide)))
theorem g38 : Good (aZ Tryz.prog tt 38 (v1 a b) 1) := by
 unfold aZ
 rw [z38]
 exact good_ifK (okp0_1 h1) (good_ifK (kz_0 _ _) (good_gV (by decide) (by decide)))
theorem g39 : Good (aZ Tryz.prog tt 39 (v1 a b) 1) := by
 unfold aZ
 rw [z39]
 exact good_ifK (okp0_1 h1) (good_ifK (kz_0 _ _) (good_gV (by decide) (by decide)))
theorem g40 : Good (aZ Tryz.prog tt 40 (v1 a b) 1) := by
 unfold aZ
 rw [z40]
 exact good_ifK (okp0_1 h1) (good_ifK (kz_0 _ _) (good_gV (by decide) (by decide)))
theorem g44 : Good (aZ Tryz.prog tt 44 (v1 a b) 1) := by
 unfold aZ
 rw [z44]
 exact good_ifK (okp0_1 h1) (good_ifK (kz_0 _ _) (good_gV (by decide) (by decide)))
theorem g46 : Good (aZ Tryz.prog tt 46 (v1 a b) 1) := by
 unfold aZ
 rw [z46]
 exact good_ifK (okp0_1 h1) (good_byB (good_gV (by decide) (by decide)) (good_gV (by decide) (by decide)))
theorem g47 : Good (aZ Tryz.prog tt 47 (v1 a b) 1) := by
 unfold aZ
 rw [z47]
 exact good_ifK (okp0_1 h1) (good_byB (good_gV (by decide) (by decide)) (good_gV (by decide) (by decide)))
theorem g49 : Good (aZ Tryz.prog tt 49 (v1 a b) 1) := by
 unfold aZ
 rw [z49]
 exact good_ifK (okp0_1 h1) (good_mV (mk_err d0 3 [(a, b)] (okAll_1 h1) ⟨_, _, rfl⟩).1 (mk_err d0 3 [(a, b)] (okAll_1 h1) ⟨_, _, rfl⟩).2)
theorem g50 : Good (aZ Tryz.prog tt 50 (v1 a b) 1) := by
 unfold aZ
 rw [z50]
 exact good_ifK (okp0_1 h1) (good_ifK (kz_0 _ _) (good_gV (by decide) (by decide)))
theorem g52 : Good (aZ Tryz.prog tt 52 (v1 a b) 1) := by
 unfold aZ
 rw [z52]
 exact good_ifK (okp0_1 h1) (good_ifK (kz_0 _ _) (good_gV (by decide) (by decide)))
theorem g54 : Good (aZ Tryz.prog tt 54 (v1 a b) 1) := by
 unfold aZ
 rw [z54]
 exact good_ifK (okp0_1 h1) (good_ifK (kz_0 _ _) (good_byB (good_gV (by decide) (by decide)) (good_gV (by decide) (by decide))))
theorem g56 : Good (aZ Tryz.prog tt 56 (v1 a b) 1) := by
 unfold aZ
 rw [z56]
 exact good_ifK (okp0_1 h1) (good_ifK (kz_0 _ _) (good_gV (by decide) (by decide)))
theorem g58 : Good (aZ Tryz.prog tt 58 (v1 a b) 1) := by
 unfold aZ
 rw [z58]
 exact good_ifK (okp0_1 h1) (good_ifK (kz_0 _ _) (good_gV (by decide) (by decide)))
theorem g59 : Good (aZ Tryz.prog tt 59 (v1 a b) 1) := by
 unfold aZ
 rw [z59]
 exact good_ifK (okp0_1 h1) (good_byB_t (by rw [(snd_no h1).2]; rfl) (good_gV (by decide) (by decide)))
theorem g60 : Good (aZ Tryz.prog tt 60 (v1 a b) 1) := by
 unfold aZ
 rw [z60]
 exact good_ifK (okp0_1 h1) (good_byB_t (by rw [(snd_no h1).2]; rfl) (good_gV (by decide) (by decide)))
theorem g62 : Good (aZ Tryz.prog tt 62 (v1 a b) 1) := by
 unfold aZ
 rw [z62]
 exact good_ifK (okp0_1 h1) (good_byB_t (by rw [(snd_no h1).2]; rfl) (good_gV (by decide) (by decide)))
theorem g29 : Good (aZ Tryz.prog tt 29 (v1 a b) 1) := by
 unfold aZ
 rw [z29]
 refine good_ifK (okp0_1 h1) (good_ifK (list_0 _ _) (good_byB ?_ (good_gV (by decide) (by decide))))
 rw [el_0]
 exact good_ifK rfl (good_ifK rfl (good_mV (mk_err d0 2 [] rfl ⟨_, _, rfl⟩).1 (mk_err d0 2 [] rfl ⟨_, _, rfl⟩).2))
theorem g48 : Good (aZ Tryz.prog tt 48 (v1 a b) 1) := by
 unfold aZ
 rw [z48]
 refine good_ifK (okp0_1 h1) (good_ifK (kz_0 _ _) ?_)
 cases hn : isnS a b with
 | false => exact good_gV (by decide) (by decide)
 | true =>
  have hs : small b = true := (Bool.and_eq_true_iff.1 hn).2
  refine good_ifK (limbs_ok hs).1 ?_
  have G12 : Good (gV d0 0 0 12) := good_gV (by decide) (by decide)
  have G5 : ∀ x, Good (gV d0 5 x 0) := fun x => good_gV (by decide) (by decide)
  refine good_byB (good_byB ?_ G12) G12
  exact good_byB (good_byB (G5 _) (good_byB (good_byB (G5 _) G12) G12)) (good_byB (good_byB (G5 _) G12) G12)
include h2
theorem g15 : Good (aZ Tryz.prog tt 15 (v2 a b c e) 2) := by
 unfold aZ
 rw [z15]
 exact good_ifK (okp0_2 h1 h2) (good_ifK (kz_0 _ _) (good_gV (by decide) (by decide)))
theorem g16 : Good (aZ Tryz.prog tt 16 (v2 a b c e) 2) := by
 unfold aZ
 rw [z16]
 exact good_ifK (okp0_2 h1 h2) (good_ifK (kz_0 _ _) (good_gV (by decide) (by decide)))
theorem g25 : Good (aZ Tryz.prog tt 25 (v2 a b c e) 2) := by
 unfold aZ
 rw [z25]
 exact good_ifK (okp0_2 h1 h2) (good_ifK (kz_0 _ _) (good_gV (by decide) (by decide)))
theorem g31 : Good (aZ Tryz.prog tt 31 (v2 a b c e) 2) := by
 unfold aZ
 rw [z31]
 exact good_ifK (okp0_2 h1 h2) (good_byB (good_gV (by decide) (by decide)) (good_ifK (kz_0 _ _) (good_gV (by decide) (by decide))))
theorem g32 : Good (aZ Tryz.prog tt 32 (v2 a b c e) 2) := by
 unfold aZ
 rw [z32]
 exact good_ifK (okp0_2 h1 h2) (good_byB (good_gV (by decide) (by decide)) (good_ifK (kz_0 _ _) (good_gV (by decide) (by decide))))
theorem g33 : Good (aZ Tryz.prog tt 33 (v2 a b c e) 2) := by
 unfold aZ
 rw [z33]
 exact good_ifK (okp0_2 h1 h2) (good_ifK (by rw [kind_0, kind_0]; rfl) (good_byB (good_gV (by decide) (by decide)) (good_gV (by decide) (by decide))))
theorem g41 : Good (aZ Tryz.prog tt 41 (v2 a b c e) 2) := by
 unfold aZ
 rw [z41]
 exact good_ifK (okp0_2 h1 h2) (good_ifK (kz_0 _ _) (good_gV (by decide) (by decide)))
theorem g43 : Good (aZ Tryz.prog tt 43 (v2 a b c e) 2) := by
 unfold aZ
 rw [z43]
 exact good_ifK (okp0_2 h1 h2) (good_ifK (kz_0 _ _) (good_gV (by decide) (by decide)))
theorem g51 : Good (aZ Tryz.prog tt 51 (v2 a b c e) 2) := by
 unfold aZ
 rw [z51]
 exact good_ifK (okp0_2 h1 h2) (good_ifK (kz_0 _ _) (good_gV (by decide) (by decide)))
theorem g61 : Good (aZ Tryz.prog tt 61 (v2 a b c e) 2) := by
 unfold aZ
 rw [z61]
 exact good_ifK (okp0_2 h1 h2) (good_byB_t (by rw [(snd_no h1).2]; rfl) (good_gV (by decide) (by decide)))
theorem g63 : Good (aZ Tryz.prog tt 63 (v2 a b c e) 2) := by
 unfold aZ
 rw [z63]
 exact good_ifK (okp0_2 h1 h2) (good_byB_t (by rw [(snd_no h1).2]; rfl) (good_gV (by decide) (by decide)))
theorem g12 : Good (aZ Tryz.prog tt 12 (v2 a b c e) 2) := by
 unfold aZ
 rw [z12]
 have ho : okAll d0.rows.length [(a, b), (c, e)] = true := by simp only [okAll, List.all_cons, List.all_nil, h1, h2]; rfl
 exact good_ifK (okp0_2 h1 h2) (good_mV (mk_err d0 1 _ ho ⟨_, _, rfl⟩).1 (mk_err d0 1 _ ho ⟨_, _, rfl⟩).2)
include h3
theorem g26 : Good (aZ Tryz.prog tt 26 (v3 a b c e f h) 3) := by
 unfold aZ
 rw [z26]
 refine good_ifK ?_ (good_ifK (kz_0 _ _) (good_gV (by decide) (by decide)))
 show (true && (true && okAll d0.rows.length [(a, b), (c, e), (f, h)])) = true
 simp only [okAll, List.all_cons, List.all_nil, h1, h2, h3]; rfl
end
end Go.Am.Sto
end
section
namespace Go.Am.Sto
open Go Go.Am Go.Proofs
def F8c : List AV → Option (Hid × List AV)
 | [.int .i64 100] => some (newHid 100, [.int .i64 0])
 | _ => none
theorem new1 : bodyD Tryz.prog G0 (callN Tryz.prog G0 .none 0 5) noLive 0 Tryz.prog.funcs[8]? [.int .i64 100] St.empty = .ret (.tup [.ptr 1 0, .int .i64 0]) (newS 100) := by kernel_rfl
def h10 (F : Hid → List AV → Option (Bool × AV × Hid)) (ar : List AV) (s : St) : Res := match ar with
 | .nilp :: r => readX F10n (.nilp :: r) s
 | r => methX F r s
def K10 {β : Type} (F : Hid → List AV → Option (Bool × AV × Hid)) (ar : List AV) (s : St) (kr : Res → Option β) : Option β := match ar with
 | .nilp :: r => match r with
  | [.int .i64 _, .sl q off len es tight] => ifK ((convA s (.sl q off len es tight)).isSome) (kr (.ret (.tup [.agg [.int .i64 0, .int .i64 0], .int .i64 1]) s))
  | _ => none
 | r => methK F r s kr
section
variable (ca : Hid → List AV → Bool) (ta na ea : Hid → List AV → Int) (Da : Hid → List AV → Hid)
def X3r : Known := ((((Known.none.add 8 (newX F8c)).add 9 (pureX F9)).add 11 (readX F11)).add 12 (pureX FAr)).add 10 (h10 (apV ca ta na ea Da))
def Y3r {β : Type} : KnownK β := (KnownK.none.add 12 (pureK FAr)).add 10 (K10 (apV ca ta na ea Da))
end
end Go.Am.Sto
end
section
namespace Go.Am.Sto
open Go Go.Am Go.Proofs
/-! ## A number, or none -/
theorem kX83 : KnownOk Tryz.prog G2 (Known.none.add 83 (methX F83z)) := (KnownOk.none _ _).add (kM2 k83z)
theorem kY83 {β : Type} : KnownKOk (Known.none.add 83 (methX F83z)) (KnownK.none.add 83 (methK F83z) : KnownK β) := addK (KnownKOk.none _) 83 F83z
theorem small_iff (z : Int) : small z = true ↔ -1000000000000000000 < z ∧ z < 1000000000000000000 := by
 unfold small
 rw [Bool.and_eq_true, leI_iff, leI_iff, decide_eq_true_iff, decide_eq_true_iff]
 omega
theorem k114z : MethOk Tryz.prog G2 114 (m2F (numZ isnS ngS lsS lnS leS)) := meth_known (D := noLive) (m := 3) (loops := 3) (n := 12) hm hn G2_plain kX83 kY83 fun d ar x d' hF => by
 unfold m2F at hF
 split at hF
 case h_2 => cases hF
 rename_i p c y z d1 hp
 cases hF
 unfold numZ at hp
 split at hp
 case h_2 => cases hp
 rename_i t z
 simp only [Option.some.injEq, Prod.mk.injEq] at hp
 obtain ⟨h1, rfl, rfl, rfl, rfl⟩ := hp
 refine (t114z d t z).trans ?_
 rw [h1]
 show _ = some (byB (eqI t 4 && small z) _ _, d)
 cases ht : eqI t 4 with
 | false => rfl
 | true =>
  rw [Bool.true_and]
  have ht4 := eqI_of ht
  subst ht4
  cases hs : small z with
  | false =>
   have hn : ¬ (-1000000000000000000 < z ∧ z < 1000000000000000000) := fun h => by rw [(small_iff z).2 h] at hs; cases hs
   by_cases h2 : -1000000000000000000 < z
   ·rw [leI_f h2, leI_t (show (1000000000000000000 : Int) ≤ z by omega)]; rfl
   ·rw [leI_t (show z ≤ (-1000000000000000000 : Int) by omega)]; rfl
  | true =>
   have hn := (small_iff z).1 hs
   rw [leI_f hn.1, leI_f hn.2]
   by_cases hz : 0 ≤ z
   ·rw [leI_t hz, w64 hz (by omega), show z = ((z.natAbs : Nat) : Int) by omega]
    refine (limbT_eq d false z.natAbs (by omega)).trans ?_
    show _ = some (AV.tup [.agg [.bool (decide (((z.natAbs : Nat) : Int) < 0)), _], _], d)
    rw [decide_eq_false (show ¬ ((z.natAbs : Nat) : Int) < 0 by omega)]; rfl
   ·rw [leI_f (show z < 0 by omega), w64n (by omega) (by omega), show -z = ((z.natAbs : Nat) : Int) by omega]
    refine (limbT_eq d true z.natAbs (by omega)).trans ?_
    show _ = some (AV.tup [.agg [.bool (decide (z < 0)), _], _], d)
    rw [decide_eq_true (show z < 0 by omega)]; rfl
/-! ## Two values without parts are compared -/
def XE : Known := X1.add 83 (methX F83z)
def YE {β : Type} : KnownK β := Y1.add 83 (methK F83z)
theorem kXE : KnownOk Tryz.prog G0 XE := kX1.add k83z
theorem kYE {β : Type} : KnownKOk XE (YE : KnownK β) := addK kY1 83 F83z
abbrev out116 (d : Hid) (u : Bool) (k : Int) : Option R := some (.tup [.bool u, .int .i64 (kM k), .int .i64 0], d)
theorem t116z (d : Hid) (a b c e k : Int) : bodyY Tryz.prog G0 XE YE 5 8 D116 Res.meth? 1000 Tryz.prog.funcs[116]? [.hptr 0, val a b, val c e, .int .i64 k] (St.one d) =
  byB (leI k 0) (tooFar d) (byB (sB a b c e) (out116 d true k) (ifK (kz d a b) (ifK (kz d a b) (ifK (kz d c e) (ifK (again c e) (byB (!eqI (ln d a b) (ln d c e)) (out116 d false k) (out116 d false k))))))) := by kernel_rfl
theorem k116z : MethOk Tryz.prog G0 116 F116z := meth_known (D := D116) (m := 1000) (loops := 5) (n := 8) hm hn G0_plain kXE kYE fun d ar x d' hF => by
 unfold F116z at hF
 split at hF
 case h_2 => cases hF
 rename_i a b c e k
 simp only [Option.some.injEq, Prod.mk.injEq, Bool.and_eq_true, Bool.not_eq_true'] at hF
 obtain ⟨⟨h1, h2, h3⟩, rfl, rfl⟩ := hF
 refine (t116z d a b c e k).trans ?_
 rw [h3]
 show byB (sB a b c e) _ _ = _
 have e1 : sB a b c e = same2 a c b e := rfl
 rw [e1]
 cases hs : same2 a c b e with
 | true => rfl
 | false =>
  show ifK (kz d a b) (ifK (kz d a b) (ifK (kz d c e) (ifK (again c e) (byB _ _ _)))) = _
  rw [show kz d a b = true from h1, show kz d c e = true from h2, again_t]
  show byB _ _ _ = _
  cases (!eqI (ln d a b) (ln d c e)) with
  | true => rfl
  | false => rfl
/-! ## New -/
theorem k8c : BornOk Tryz.prog G0 8 F8c := born_known (D := noLive) (m := 0) (loops := 0) (n := 5) (Ends := fun d s1 r0 => r0 = 1 ∧ ∃ L : Int, 0 ≤ L ∧ L ≤ 1048576 ∧ d = newHid L ∧ s1 = newS L) hm hn G0_plain (KnownOk.none _ _) (fun ar d xs hF => by
  unfold F8c at hF
  split at hF
  ·cases hF; exact ⟨rfl, rfl, _, _, new1, ⟨rfl, 100, by omega, by omega, rfl, rfl⟩, (newS_row 100).2⟩
  ·cases hF) (fun d s1 r0 w E0 E1 w' b hE h0 hs hl => by
  obtain ⟨rfl, L, hL0, hL1, rfl, rfl⟩ := hE
  obtain ⟨arr, g1, g2, g3, vs, g4, g5⟩ := row_cells hs.rel (newS_row L).1 hl
  refine ⟨fun c => c = b, fun c hc => ?_, fun w1 hw => ?_⟩
  ·subst hc
   refine ⟨(hs.rel.lt 1 c 0 hl).2, ?_⟩
   rcases hs.new 1 c 0 hl with h1 | ⟨r, base, h1⟩
   ·exact h1
   ·rw [h0 r] at h1; cases h1
  ·have hlen := g4.length
   cases g4 with
   | cons a1 v1 => cases v1 with
    | cons a2 v1 => cases v1 with
     | cons a3 v1 => cases v1 with
      | cons a4 v1 => cases v1 with
       | cons a5 v1 =>
        cases v1
        cases a1; cases a2
        have := mt_slice a3; have := mt_slice a4
        subst_vars
        exact ⟨L, 0, _, _, rfl, rfl, rfl, ⟨by omega, hL0, hL1, by simp [newHid]⟩, rfl, ⟨arr, by rw [hw _ rfl]; exact g1, by rw [← hlen]; exact g3, g5⟩, .inl ⟨rfl, rfl⟩⟩)
end Go.Am.Sto
end
section
namespace Go.Am.Sto
open Go Go.Am Go.Proofs
def D3r : Live := fun i => match i with | 0 => .pack [0, 1, 10, 11, 12] | _ => .all
def rowR3 (r : Nat) : AObj := .row { vals := [.int .i64 100, .int .i64 0, mt, mt], root := r, pos := 0, ep := 0, fep := 0, ext := 4, solo := true, ty := 36 }
def sRef (d : Hid) (C C2 : List AV) (w0 w1 : Int) : St :=
 ⟨8, (((((((Tr.nil.set 0 (.hid d)).set 1 (rowX6 1 [])).set 2 (rowX6 2 C)).set 3 (rowX6 3 (v1 0 0))).set 4 (rowX6 4 [])).set 5 (rowX6 5 C2)).set 6 (rowX6 6 (v1 w0 w1))).set 7 (rowR3 7)⟩
def tRef (op : Int) (cs : List AV) (n : Nat) (e i : Int) : T := tOf 116 [(0, .int .i64 op), (1, .lst cs n false false), (10, .int .i64 e), (11, .ptr 7 0), (12, .int .i64 i)]
section
variable (ca : Hid → List AV → Bool) (ta na ea : Hid → List AV → Int) (Da : Hid → List AV → Hid)
def L3r (P : Program) (rounds : Nat) : T → St → Option AV := runLoop P G2 (X3r ca ta na ea Da) (Y3r ca ta na ea Da) 5 8 D3r Res.val? 40 3 (.pack [0, 1, 10, 11, 12]) 8 rounds
variable (op : Int) (cs : List AV) (n : Nat)
def cvt (C : List AV) (len : Nat) : Bool := (match cutN (len * 2) 0 C with | some c => bif Nat.blt 0 len && AV.plains c then some (AV.lst c len false false) else none | none => none).isSome
abbrev aR (C : List AV) (len : Nat) : List AV := [.hptr 0, .int .i64 op, .lst C len false false]
abbrev sEq (a c b e : Int) : Bool := bif false then !same2 a c b e else same2 a c b e
abbrev out3 (e w0 w1 : Int) : Option AV := byB (sEq w0 0 w1 0) (some (.bool (eqI e 1))) N4
theorem start3 : bodyY Tryz.prog G2 (X3r ca ta na ea Da) (Y3r ca ta na ea Da) 5 8 D3r Res.val? 40 Tryz.prog.funcs[3]? [.int .i64 op, .lst cs (n + 1) false false] St.empty =
  byB (!leI (.ofNat (n + 1)) 30) T4 (ifK (Nat.ble (0 + (n + 1)) 1073741824) (optK (fun C => ifK (C.all AV.single) (ifK (cvt C (0 + (n + 1))) (ifK (Nat.ble (0 + (n + 1)) 1073741824) (optK (fun C2 => ifK (C2.all AV.single) (optK (fun C3 => ifK (Nat.blt 0 (0 + (n + 1)) && AV.plains C3)
   (ifK (ca (newHid 100) (aR op C3 (0 + (n + 1)))) (byB (!leI 0 op) (out3 (ea (newHid 100) (aR op C3 (0 + (n + 1)))) (ta (newHid 100) (aR op C3 (0 + (n + 1)))) (na (newHid 100) (aR op C3 (0 + (n + 1)))))
    (byB (leI 64 op) (out3 (ea (newHid 100) (aR op C3 (0 + (n + 1)))) (ta (newHid 100) (aR op C3 (0 + (n + 1)))) (na (newHid 100) (aR op C3 (0 + (n + 1)))))
     (L3r ca ta na ea Da Tryz.prog 40 (tRef op cs (n + 1) (ea (newHid 100) (aR op C3 (0 + (n + 1)))) 0) (sRef (Da (newHid 100) (aR op C3 (0 + (n + 1)))) C C2 (ta (newHid 100) (aR op C3 (0 + (n + 1)))) (na (newHid 100) (aR op C3 (0 + (n + 1))))))))))
   (cutN ((0 + (n + 1)) * 2) 0 C2))) (takeN ((n + 1) * 2) cs))))) (takeN ((n + 1) * 2) cs))) := by kernel_rfl
end
end Go.Am.Sto
end
section
namespace Go.Am.Sto
open Go Go.Am Go.Proofs
section
variable (ca : Hid → List AV → Bool) (ta na ea : Hid → List AV → Int) (Da : Hid → List AV → Hid)
variable (op : Int) (cs : List AV) (n : Nat)
abbrev x11 (e : Int) : Option AV := some (.bool (eqI e 11))
abbrev okE (e : Int) : Option AV := byB (!eqI e 11) (some (.bool (!eqI e 2))) N4
def exit3 (op : Int) (n : Nat) (e : Int) : Option AV := byB (!leI (arOf op).1 (.ofNat n)) (x11 e) (byB (leI 0 (arOf op).2) (byB (!leI (.ofNat n) (arOf op).2) (x11 e) (okE e)) (okE e))
theorem step3 (N i : Nat) (d : Hid) (C C2 : List AV) (w0 w1 e : Int) : L3r ca ta na ea Da Tryz.prog (N + 1) (tRef op cs (n + 1) e (.ofNat i)) (sRef d C C2 w0 w1) =
  byB (!leI (.ofNat (n + 1)) (.ofNat i)) (ifK (Nat.blt i (n + 1) && nonNil cs) (opt2 (fun a b => byB (sndB 0 a b) (ifK (AV.under 8 (.lst cs (n + 1) false false)) (ifK (lowOkB (sRef d C C2 w0 w1) 8 8) (L3r ca ta na ea Da Tryz.prog N (tRef op cs (n + 1) e (IntKind.i64.wrap (.ofNat i + 1))) (sRef d C C2 w0 w1)))) (some (.bool (eqI e 2)))) (cutN 2 (i * 2) cs)))
   (exit3 op (n + 1) e) := by kernel_rfl
end
end Go.Am.Sto
end
