import Derived.Test.YtlibahklbbachaaGreatDoorRf11
import Derived.Test.YtlibahklbbachaaGreatDoorRf12
set_option autoImplicit false
set_option maxRecDepth 100000
set_option linter.unusedSimpArgs false
set_option linter.unusedVariables false
section
namespace Go.Am.Sto
open Go Go.Am Go.Proofs
theorem eqI_t {a b : Int} (h : eqI a b = true) : a = b := by rw [eqI_eq] at h; simpa using h
def F115 (d : Hid) : List AV → Option (Bool × AV × Hid)
 | [.hptr 0, .agg [.int .i64 a, .int .i64 b], .agg [.int .i64 c, .int .i64 e]] => some (same2 a c b e || !eqI (kd d a b) 5, .bool (same2 a c b e), d)
 | _ => none
theorem k115 : MethOk Tryz.prog G0 115 F115 := meth_known (D := noLive) (m := 0) (loops := 0) (n := 8) hm hn G0_plain kX1 kY1 fun d ar x d' hF => by
 unfold F115 at hF
 split at hF
 ·rename_i a b c e
  simp only [Option.some.injEq, Prod.mk.injEq, Bool.or_eq_true] at hF
  obtain ⟨h1, rfl, rfl⟩ := hF
  rw [t115]
  cases hs : same2 a c b e with
  | true => rfl
  | false =>
   rw [hs] at h1
   rcases h1 with h1 | h1
   ·cases h1
   ·rw [h1]; rfl
 ·cases hF
def F162 (d : Hid) : List AV → Option (Bool × AV × Hid)
 | [.hptr 0, .agg [.int .i64 a, .int .i64 b, .int .i64 c, .int .i64 e]] => some (eqI (kd d a b) (kd d c e) && eqI (ln d a b) (ln d c e) && eqI (kd d a b) 1 && eqI (ln d a b) 2, .tup [.lst (pv d a b c e 0 ++ pv d a b c e 1) 2 false false, .bool true], d)
 | _ => none
theorem k162 : MethOk Tryz.prog G0 162 F162 := meth_known (D := noLive) (m := 3) (loops := 0) (n := 8) hm hn G0_plain kX1 kY1 fun d ar x d' hF => by
 unfold F162 at hF
 split at hF
 ·rename_i a b c e
  simp only [Option.some.injEq, Prod.mk.injEq, Bool.and_eq_true] at hF
  obtain ⟨⟨⟨⟨h1, h2⟩, h3⟩, h4⟩, rfl, rfl⟩ := hF
  rw [t162, h1, again_t, h2, h3]
  show W162 d a b c e = _
  unfold W162
  rw [eqI_t h4]
  rfl
 ·cases hF
def X2 : Known := ((X1.add 86 (methX F86)).add 115 (methX F115)).add 162 (methX F162)
def Y2 {β : Type} : KnownK β := ((Y1.add 86 (methK F86)).add 115 (methK F115)).add 162 (methK F162)
theorem kX2 : KnownOk Tryz.prog G0 X2 := ((kX1.add k86).add k115).add k162
theorem kY2 {β : Type} : KnownKOk X2 (Y2 : KnownK β) := addK (addK (addK kY1 86 F86) 115 F115) 162 F162
def D116 : Live := fun i => match i with | 0 => .pack [0, 3, 11] | 999 => .pack [] | _ => .all
def L116 (P : Program) (rounds : Nat) : T → St → Option R := runLoop P G0 X2 Y2 5 8 D116 Res.meth? 1000 116 (.pack [0, 3, 11]) 1 rounds
end Go.Am.Sto
end
section
namespace Go.Am.Sto
open Go Go.Am Go.Proofs
def row0 (i ty : Nat) (l : List AV) : Row := { vals := l, root := i, pos := 0, ep := 0, fep := 0, ext := l.length, solo := true, ty := ty }
def tQ (l : AV) (k : Int) : T := tOf 68 [(0, .hptr 0), (3, .int .i64 k), (11, l)]
def sQ0 (d : Hid) (a b c e : Int) : St := ⟨4, (((Tr.nil.set 0 (.hid d)).set 1 (.row (row0 1 29 [.int .i64 a, .int .i64 b]))).set 2 (.row (row0 2 29 [.int .i64 c, .int .i64 e]))).set 3 (.row (row0 3 209 [.int .i64 a, .int .i64 b, .int .i64 c, .int .i64 e]))⟩
def sQ (d : Hid) (C : List AV) : St := ⟨2, (Tr.nil.set 0 (.hid d)).set 1 (.row (rowB 1 209 C))⟩
abbrev q4 (a b c e : Int) : List AV := [.int .i64 a, .int .i64 b, .int .i64 c, .int .i64 e]
theorem start116 (d : Hid) (a b c e k : Int) : bodyY Tryz.prog G0 X2 Y2 5 8 D116 Res.meth? 1000 Tryz.prog.funcs[116]? [.hptr 0, val a b, val c e, .int .i64 k] (St.one d) = L116 Tryz.prog 1000 (tQ (.sl 3 0 1 4 true) k) (sQ0 d a b c e) := by kernel_rfl
abbrev partsB (d : Hid) (a b c e : Int) : Bool := eqI (kd d a b) (kd d c e) && eqI (ln d a b) (ln d c e) && eqI (kd d a b) 1 && eqI (ln d a b) 2
abbrev qB (d : Hid) (a b c e : Int) : Bool := same2 a c b e || !eqI (kd d a b) 5
abbrev kM (k : Int) : Int := IntKind.i64.wrap (k - 1)
def tooFar (d : Hid) : Option R := some (.tup [.bool false, .int .i64 0, .int .i64 15], d)
theorem step116s (N : Nat) (d : Hid) (a b c e k : Int) : L116 Tryz.prog (N + 1) (tQ (.sl 3 0 1 4 true) k) (sQ0 d a b c e) =
  byB (leI k 0) (tooFar d) (ifK (qB d a b c e) (byB (same2 a c b e) (L116 Tryz.prog N (tQ (.sl 1 0 0 4 false) (kM k)) (sQ d (q4 a b c e)))
   (ifK (partsB d a b c e) (L116 Tryz.prog N (tQ (.sl 1 0 2 4 false) (kM k)) (sQ d (pv d a b c e 1 ++ pv d a b c e 0)))))) := by kernel_rfl
theorem step116a (N : Nat) (d : Hid) (a b c e k : Int) : L116 Tryz.prog (N + 1) (tQ (.sl 1 0 1 4 false) k) (sQ d (q4 a b c e)) =
  byB (leI k 0) (tooFar d) (ifK (qB d a b c e) (byB (same2 a c b e) (L116 Tryz.prog N (tQ (.sl 1 0 0 4 false) (kM k)) (sQ d (q4 a b c e)))
   (ifK (partsB d a b c e) (L116 Tryz.prog N (tQ (.sl 1 0 2 4 false) (kM k)) (sQ d (pv d a b c e 1 ++ pv d a b c e 0)))))) := by kernel_rfl
theorem step116b (N : Nat) (d : Hid) (a b c e f g h i k : Int) : L116 Tryz.prog (N + 1) (tQ (.sl 1 0 2 4 false) k) (sQ d (q4 f g h i ++ q4 a b c e)) =
  byB (leI k 0) (tooFar d) (ifK (qB d a b c e) (byB (same2 a c b e) (L116 Tryz.prog N (tQ (.sl 1 0 1 4 false) (kM k)) (sQ d (q4 f g h i)))
   (ifK (partsB d a b c e) (L116 Tryz.prog N (tQ (.sl 1 0 3 4 false) (kM k)) (sQ d (q4 f g h i ++ (pv d a b c e 1 ++ pv d a b c e 0))))))) := by kernel_rfl
theorem step116e (N : Nat) (d : Hid) (C : List AV) (k : Int) : L116 Tryz.prog (N + 1) (tQ (.sl 1 0 0 4 false) k) (sQ d C) = some (.tup [.bool true, .int .i64 k, .int .i64 0], d) := by kernel_rfl
end Go.Am.Sto
end
section
namespace Go.Am.Sto
open Go Go.Am Go.Proofs
def kd' (rows : List Ob) (x : V2) : Int := kindOf rows x.1 x.2
def ln' (rows : List Ob) (x : V2) : Int := lenOf rows x.1 x.2
def sameV (x y : V2) : Bool := same2 x.1 y.1 x.2 y.2
def eqvO (rows : List Ob) : Nat → Int → V2 → V2 → Option Int
 | 0, _, _, _ => none
 | f + 1, k, x, y => match leI k 0, sameV x y with
  | false, true => some (kM k)
  | false, false => match (!eqI (kd' rows x) 5) && (eqI (kd' rows x) (kd' rows y) && eqI (ln' rows x) (ln' rows y) && eqI (kd' rows x) 1 && eqI (ln' rows x) 2), leI (kM k) 0, sameV (getOf rows x.1 x.2 0).1 (getOf rows y.1 y.2 0).1 with
   | true, false, true => eqvO rows f (kM (kM k)) (getOf rows x.1 x.2 1).1 (getOf rows y.1 y.2 1).1
   | _, _, _ => none
  | _, _ => none
theorem eqvO_step {rows : List Ob} {f : Nat} {k k' : Int} {x y : V2} (h : eqvO rows (f + 1) k x y = some k') :
  leI k 0 = false ∧ ((sameV x y = true ∧ k' = kM k) ∨ (sameV x y = false ∧ (!eqI (kd' rows x) 5) = true ∧ (eqI (kd' rows x) (kd' rows y) && eqI (ln' rows x) (ln' rows y) && eqI (kd' rows x) 1 && eqI (ln' rows x) 2) = true ∧ leI (kM k) 0 = false ∧
   sameV (getOf rows x.1 x.2 0).1 (getOf rows y.1 y.2 0).1 = true ∧ eqvO rows f (kM (kM k)) (getOf rows x.1 x.2 1).1 (getOf rows y.1 y.2 1).1 = some k')) := by
 simp only [eqvO] at h
 split at h
 ·rename_i h1 h2; cases h; exact ⟨h1, .inl ⟨h2, rfl⟩⟩
 ·rename_i h1 h2
  split at h
  ·rename_i h3 h4 h5
   rw [Bool.and_eq_true] at h3
   exact ⟨h1, .inr ⟨h2, h3.1, h3.2, h4, h5, h⟩⟩
  ·cases h
 ·cases h
theorem empty116 (N : Nat) (d : Hid) (C : List AV) (k : Int) (hN : 0 < N) : L116 Tryz.prog N (tQ (.sl 1 0 0 4 false) k) (sQ d C) = some (.tup [.bool true, .int .i64 k, .int .i64 0], d) := by
 obtain ⟨N, rfl⟩ : ∃ M, N = M + 1 := ⟨N - 1, by omega⟩
 exact step116e N d C k
theorem main116a (d : Hid) : ∀ (f N : Nat) (k k' : Int) (x y : V2), eqvO d.rows f k x y = some k' → 2 * f ≤ N →
  L116 Tryz.prog N (tQ (.sl 1 0 1 4 false) k) (sQ d (q4 x.1 x.2 y.1 y.2)) = some (.tup [.bool true, .int .i64 k', .int .i64 0], d)
 | 0, _, _, _, _, _, h, _ => by cases h
 | f + 1, N, k, k', x, y, h, hN => by
  obtain ⟨M, rfl⟩ : ∃ M, N = M + 1 + 1 := ⟨N - 2, by omega⟩
  rw [step116a]
  obtain ⟨h1, h2⟩ := eqvO_step h
  rw [h1]
  rcases h2 with ⟨h2, rfl⟩ | ⟨h2, h3, h4, h5, h6, h7⟩
  ·show ifK (same2 x.1 y.1 x.2 y.2 || _) _ = _
   rw [show same2 x.1 y.1 x.2 y.2 = true from h2]
   exact empty116 _ _ _ _ (by omega)
  ·show ifK (same2 x.1 y.1 x.2 y.2 || !eqI (kd d x.1 x.2) 5) _ = _
   rw [show same2 x.1 y.1 x.2 y.2 = false from h2, show (!eqI (kd d x.1 x.2) 5) = true from h3]
   show ifK (partsB d x.1 x.2 y.1 y.2) _ = _
   rw [show partsB d x.1 x.2 y.1 y.2 = true from h4]
   show L116 Tryz.prog (M + 1) (tQ (.sl 1 0 2 4 false) (kM k)) (sQ d (q4 _ _ _ _ ++ q4 _ _ _ _)) = _
   rw [step116b, h5]
   show ifK (same2 _ _ _ _ || _) _ = _
   rw [show same2 (getO d x.1 x.2 0).1.1 (getO d y.1 y.2 0).1.1 (getO d x.1 x.2 0).1.2 (getO d y.1 y.2 0).1.2 = true from h6]
   exact main116a d f M _ _ _ _ h7 (by omega)
theorem main116 (d : Hid) (f : Nat) (k k' : Int) (x y : V2) (h : eqvO d.rows f k x y = some k') (hf : f ≤ 400) :
  L116 Tryz.prog 1000 (tQ (.sl 3 0 1 4 true) k) (sQ0 d x.1 x.2 y.1 y.2) = some (.tup [.bool true, .int .i64 k', .int .i64 0], d) := by
 cases f with
 | zero => cases h
 | succ f =>
  show L116 Tryz.prog (999 + 1) _ _ = _
  rw [step116s]
  obtain ⟨h1, h2⟩ := eqvO_step h
  rw [h1]
  rcases h2 with ⟨h2, rfl⟩ | ⟨h2, h3, h4, h5, h6, h7⟩
  ·show ifK (same2 x.1 y.1 x.2 y.2 || _) _ = _
   rw [show same2 x.1 y.1 x.2 y.2 = true from h2]
   exact empty116 _ _ _ _ (by omega)
  ·show ifK (same2 x.1 y.1 x.2 y.2 || !eqI (kd d x.1 x.2) 5) _ = _
   rw [show same2 x.1 y.1 x.2 y.2 = false from h2, show (!eqI (kd d x.1 x.2) 5) = true from h3]
   show ifK (partsB d x.1 x.2 y.1 y.2) _ = _
   rw [show partsB d x.1 x.2 y.1 y.2 = true from h4]
   show L116 Tryz.prog (998 + 1) (tQ (.sl 1 0 2 4 false) (kM k)) (sQ d (q4 _ _ _ _ ++ q4 _ _ _ _)) = _
   rw [step116b, h5]
   show ifK (same2 _ _ _ _ || _) _ = _
   rw [show same2 (getO d x.1 x.2 0).1.1 (getO d y.1 y.2 0).1.1 (getO d x.1 x.2 0).1.2 (getO d y.1 y.2 0).1.2 = true from h6]
   exact main116a d f 998 _ _ _ _ h7 (by omega)
def F116 (d : Hid) : List AV → Option (Bool × AV × Hid)
 | [.hptr 0, .agg [.int .i64 a, .int .i64 b], .agg [.int .i64 c, .int .i64 e], .int .i64 k] => some ((eqvO d.rows 400 k (a, b) (c, e)).isSome, .tup [.bool true, .int .i64 ((eqvO d.rows 400 k (a, b) (c, e)).getD 0), .int .i64 0], d)
 | _ => none
theorem k116 : MethOk Tryz.prog G0 116 F116 := meth_known (D := D116) (m := 1000) (loops := 5) (n := 8) hm hn G0_plain kX2 kY2 fun d ar x d' hF => by
 unfold F116 at hF
 split at hF
 ·rename_i a b c e k
  simp only [Option.some.injEq, Prod.mk.injEq] at hF
  obtain ⟨h1, rfl, rfl⟩ := hF
  rw [start116]
  cases he : eqvO d.rows 400 k (a, b) (c, e) with
  | none => rw [he] at h1; cases h1
  | some p => exact main116 d 400 k p (a, b) (c, e) he (by omega)
 ·cases hF
end Go.Am.Sto
end
