import Derived.Test.YtlibahklbbachaaGreatDoorRf23
import Derived.Test.YtlibahklbbachaaGreatDoorRf15
set_option autoImplicit false
set_option maxRecDepth 100000
set_option linter.unusedSimpArgs false
set_option linter.unusedVariables false
section
namespace Go.Am.Sto
open Go Go.Am Go.Proofs
abbrev W32' (z : Int) : Int := IntKind.u32.wrap z
def u32s (l : List Int) : List AV := l.map (AV.int .u32)
def minusT : List Int → List Int → Nat → Int → List AV → Option NewRow
 | [], _, i, _, acc => some ⟨acc, i, 1, 75⟩
 | x :: r, [], i, w, acc => byB (!leI w x) (minusT r [] (i + 1) 1 (acc ++ [.int .u32 (W32' (W32' (x + 1000000000) - w))])) (minusT r [] (i + 1) 0 (acc ++ [.int .u32 (W32' (x - w))]))
 | x :: r, y :: q, i, w, acc => byB (!leI (W32' (w + y)) x) (minusT r q (i + 1) 1 (acc ++ [.int .u32 (W32' (W32' (x + 1000000000) - W32' (w + y)))])) (minusT r q (i + 1) 0 (acc ++ [.int .u32 (W32' (x - W32' (w + y)))]))
section
variable (a0 a1 a2 b0 b1 b2 : Int) (t1 l1 t2 l2 : Bool)
def b135 (P : Program) (a b : List Int) (n m : Nat) : Option NewRow := bodyY P G0 .none (.none : KnownK NewRow) 0 5 noLive Res.row? 40 P.funcs[135]? [.lst (u32s a) n t1 false, .lst (u32s b) m t2 l2] St.empty
theorem p135_1_0 : b135 t1 t2 l2 Tryz.prog [a0] [] 1 0 = minusT [a0] [] 0 0 [] := by unfold b135; kernel_rfl
theorem p135_1_1 : b135 t1 t2 l2 Tryz.prog [a0] [b0] 1 1 = minusT [a0] [b0] 0 0 [] := by unfold b135; kernel_rfl
theorem p135_2_0 : b135 t1 t2 l2 Tryz.prog [a0, a1] [] 2 0 = minusT [a0, a1] [] 0 0 [] := by unfold b135; kernel_rfl
theorem p135_2_1 : b135 t1 t2 l2 Tryz.prog [a0, a1] [b0] 2 1 = minusT [a0, a1] [b0] 0 0 [] := by unfold b135; kernel_rfl
theorem p135_2_2 : b135 t1 t2 l2 Tryz.prog [a0, a1] [b0, b1] 2 2 = minusT [a0, a1] [b0, b1] 0 0 [] := by unfold b135; kernel_rfl
theorem p135_3_0 : b135 t1 t2 l2 Tryz.prog [a0, a1, a2] [] 3 0 = minusT [a0, a1, a2] [] 0 0 [] := by unfold b135; kernel_rfl
theorem p135_3_1 : b135 t1 t2 l2 Tryz.prog [a0, a1, a2] [b0] 3 1 = minusT [a0, a1, a2] [b0] 0 0 [] := by unfold b135; kernel_rfl
theorem p135_3_2 : b135 t1 t2 l2 Tryz.prog [a0, a1, a2] [b0, b1] 3 2 = minusT [a0, a1, a2] [b0, b1] 0 0 [] := by unfold b135; kernel_rfl
theorem p135_3_3 : b135 t1 t2 l2 Tryz.prog [a0, a1, a2] [b0, b1, b2] 3 3 = minusT [a0, a1, a2] [b0, b1, b2] 0 0 [] := by unfold b135; kernel_rfl
def cmpT (x y : Int) (k : Option AV) : Option AV := byB (!eqI x x) (byB (!eqI y y) k (some (.int .i64 (-1)))) (byB (!eqI y y) (some (.int .i64 1)) (byB (!leI y x) (some (.int .i64 (-1))) (byB (!leI x y) (some (.int .i64 1)) k)))
def sizeT : List Int → List Int → Option AV
 | [], [] => some (.int .i64 0)
 | x :: r, y :: q => cmpT x y (sizeT r q)
 | _, _ => none
def b134 (P : Program) (a b : List Int) (n m : Nat) : Option AV := bodyY P G0 .none (.none : KnownK AV) 0 5 noLive Res.fresh0? 40 P.funcs[134]? [.lst (u32s a) n t1 l1, .lst (u32s b) m t2 l2] St.empty
theorem p134_0_0 : b134 t1 l1 t2 l2 Tryz.prog [] [] 0 0 = sizeT [] [] := by unfold b134; kernel_rfl
theorem p134_0_1 : b134 t1 l1 t2 l2 Tryz.prog [] [b0] 0 1 = some (.int .i64 (-1)) := by unfold b134; kernel_rfl
theorem p134_0_2 : b134 t1 l1 t2 l2 Tryz.prog [] [b0, b1] 0 2 = some (.int .i64 (-1)) := by unfold b134; kernel_rfl
theorem p134_0_3 : b134 t1 l1 t2 l2 Tryz.prog [] [b0, b1, b2] 0 3 = some (.int .i64 (-1)) := by unfold b134; kernel_rfl
theorem p134_1_0 : b134 t1 l1 t2 l2 Tryz.prog [a0] [] 1 0 = some (.int .i64 1) := by unfold b134; kernel_rfl
theorem p134_1_1 : b134 t1 l1 t2 l2 Tryz.prog [a0] [b0] 1 1 = sizeT [a0] [b0] := by unfold b134; kernel_rfl
theorem p134_1_2 : b134 t1 l1 t2 l2 Tryz.prog [a0] [b0, b1] 1 2 = some (.int .i64 (-1)) := by unfold b134; kernel_rfl
theorem p134_1_3 : b134 t1 l1 t2 l2 Tryz.prog [a0] [b0, b1, b2] 1 3 = some (.int .i64 (-1)) := by unfold b134; kernel_rfl
theorem p134_2_0 : b134 t1 l1 t2 l2 Tryz.prog [a0, a1] [] 2 0 = some (.int .i64 1) := by unfold b134; kernel_rfl
theorem p134_2_1 : b134 t1 l1 t2 l2 Tryz.prog [a0, a1] [b0] 2 1 = some (.int .i64 1) := by unfold b134; kernel_rfl
theorem p134_2_2 : b134 t1 l1 t2 l2 Tryz.prog [a0, a1] [b0, b1] 2 2 = sizeT [a1, a0] [b1, b0] := by unfold b134; kernel_rfl
theorem p134_2_3 : b134 t1 l1 t2 l2 Tryz.prog [a0, a1] [b0, b1, b2] 2 3 = some (.int .i64 (-1)) := by unfold b134; kernel_rfl
theorem p134_3_0 : b134 t1 l1 t2 l2 Tryz.prog [a0, a1, a2] [] 3 0 = some (.int .i64 1) := by unfold b134; kernel_rfl
theorem p134_3_1 : b134 t1 l1 t2 l2 Tryz.prog [a0, a1, a2] [b0] 3 1 = some (.int .i64 1) := by unfold b134; kernel_rfl
theorem p134_3_2 : b134 t1 l1 t2 l2 Tryz.prog [a0, a1, a2] [b0, b1] 3 2 = some (.int .i64 1) := by unfold b134; kernel_rfl
theorem p134_3_3 : b134 t1 l1 t2 l2 Tryz.prog [a0, a1, a2] [b0, b1, b2] 3 3 = sizeT [a2, a1, a0] [b2, b1, b0] := by unfold b134; kernel_rfl
end
end Go.Am.Sto
end
section
namespace Go.Am.Sto
open Go Go.Am Go.Proofs
abbrev W32 (z : Int) : Int := IntKind.u32.wrap z
def plusT (a b : List AV) (m : Nat) : Nat → Nat → Int → List AV → Option NewRow
 | 0, i, c, acc => some ⟨acc ++ [.int .u32 c], i + 1, 1, 75⟩
 | k + 1, i, c, acc => ifK (nonNil a) (opt1 .u32 (fun x => bif Nat.blt i m then ifK (nonNil b) (opt1 .u32 (fun y => plusT a b m k (i + 1) (W32 ((W32 (W32 (x + c) + y)).tdiv 1000000000)) (acc ++ [.int .u32 ((W32 (W32 (x + c) + y)).tmod 1000000000)])) (b[i]?))
   else plusT a b m k (i + 1) (W32 ((W32 (x + c)).tdiv 1000000000)) (acc ++ [.int .u32 ((W32 (x + c)).tmod 1000000000)])) (a[i]?))
section
variable (a b : List AV) (t1 l1 t2 l2 : Bool)
def b133 (P : Program) (n m : Nat) : Option NewRow := bodyY P G0 .none (.none : KnownK NewRow) 0 5 noLive Res.row? 40 P.funcs[133]? [.lst a n t1 l1, .lst b m t2 l2] St.empty
theorem p133_0_0 : b133 a b t1 l1 t2 l2 Tryz.prog 0 0 = plusT a b 0 0 0 0 [] := by unfold b133; kernel_rfl
theorem p133_0_1 : b133 a b t1 l1 t2 l2 Tryz.prog 0 1 = plusT b a 0 1 0 0 [] := by unfold b133; kernel_rfl
theorem p133_0_2 : b133 a b t1 l1 t2 l2 Tryz.prog 0 2 = plusT b a 0 2 0 0 [] := by unfold b133; kernel_rfl
theorem p133_0_3 : b133 a b t1 l1 t2 l2 Tryz.prog 0 3 = plusT b a 0 3 0 0 [] := by unfold b133; kernel_rfl
theorem p133_1_0 : b133 a b t1 l1 t2 l2 Tryz.prog 1 0 = plusT a b 0 1 0 0 [] := by unfold b133; kernel_rfl
theorem p133_1_1 : b133 a b t1 l1 t2 l2 Tryz.prog 1 1 = plusT a b 1 1 0 0 [] := by unfold b133; kernel_rfl
theorem p133_1_2 : b133 a b t1 l1 t2 l2 Tryz.prog 1 2 = plusT b a 1 2 0 0 [] := by unfold b133; kernel_rfl
theorem p133_1_3 : b133 a b t1 l1 t2 l2 Tryz.prog 1 3 = plusT b a 1 3 0 0 [] := by unfold b133; kernel_rfl
theorem p133_2_0 : b133 a b t1 l1 t2 l2 Tryz.prog 2 0 = plusT a b 0 2 0 0 [] := by unfold b133; kernel_rfl
theorem p133_2_1 : b133 a b t1 l1 t2 l2 Tryz.prog 2 1 = plusT a b 1 2 0 0 [] := by unfold b133; kernel_rfl
theorem p133_2_2 : b133 a b t1 l1 t2 l2 Tryz.prog 2 2 = plusT a b 2 2 0 0 [] := by unfold b133; kernel_rfl
theorem p133_2_3 : b133 a b t1 l1 t2 l2 Tryz.prog 2 3 = plusT b a 2 3 0 0 [] := by unfold b133; kernel_rfl
theorem p133_3_0 : b133 a b t1 l1 t2 l2 Tryz.prog 3 0 = plusT a b 0 3 0 0 [] := by unfold b133; kernel_rfl
theorem p133_3_1 : b133 a b t1 l1 t2 l2 Tryz.prog 3 1 = plusT a b 1 3 0 0 [] := by unfold b133; kernel_rfl
theorem p133_3_2 : b133 a b t1 l1 t2 l2 Tryz.prog 3 2 = plusT a b 2 3 0 0 [] := by unfold b133; kernel_rfl
theorem p133_3_3 : b133 a b t1 l1 t2 l2 Tryz.prog 3 3 = plusT a b 3 3 0 0 [] := by unfold b133; kernel_rfl
end
end Go.Am.Sto
end
section
namespace Go.Am.Sto
open Go Go.Am Go.Proofs
def ints : List AV → List Int
 | .int .u32 z :: r => z :: ints r
 | _ => []
theorem u32s_ints {cs : List AV} (h : cs.all isLimb = true) : u32s (ints cs) = cs ∧ (ints cs).length = cs.length ∧ ∀ z ∈ ints cs, 0 ≤ z ∧ z < 1000000000 := by
 induction cs with
 | nil => exact ⟨rfl, rfl, fun z hz => by simp [ints] at hz⟩
 | cons a l ih =>
  rw [List.all_cons, Bool.and_eq_true] at h
  obtain ⟨z, rfl, h0, h1⟩ := isLimb_eq h.1
  obtain ⟨e1, e2, e3⟩ := ih h.2
  refine ⟨?_, by simp only [ints, List.length_cons, e2], fun y hy => ?_⟩
  ·show AV.int .u32 z :: u32s (ints l) = _
   rw [e1]
  ·simp only [ints, List.mem_cons] at hy
   rcases hy with rfl | hy
   ·exact ⟨h0, h1⟩
   ·exact e3 y hy
def lim3 (n : Nat) (cs : List AV) : Bool := Nat.ble n 3 && limbsOk n cs
theorem lim3_eq {n : Nat} {cs : List AV} (h : lim3 n cs = true) : n ≤ 3 ∧ cs.length = n ∧ cs.all isLimb = true := by
 unfold lim3 limbsOk at h
 rw [Bool.and_eq_true, Bool.and_eq_true, Bool.and_eq_true] at h
 exact ⟨Nat.le_of_ble_eq_true h.1, Nat.eq_of_beq_eq_true h.2.2.1, h.2.2.2⟩
theorem lim3_is {n : Nat} {cs : List AV} (h : lim3 n cs = true) : ∃ l : List Int, cs = u32s l ∧ l.length = n ∧ n ≤ 3 ∧ ints cs = l ∧ ∀ z ∈ l, 0 ≤ z ∧ z < 1000000000 := by
 obtain ⟨h1, h2, h3⟩ := lim3_eq h
 obtain ⟨e1, e2, e3⟩ := u32s_ints h3
 exact ⟨ints cs, e1.symm, by omega, h1, rfl, e3⟩
/-! ## Which is more -/
def cmpR : List Int → List Int → Int
 | x :: r, y :: q => bif leI y x then (bif leI x y then cmpR r q else 1) else -1
 | _, _ => 0
def szI (a b : List Int) : Int := bif Nat.blt a.length b.length then -1 else bif Nat.blt b.length a.length then 1 else cmpR a.reverse b.reverse
theorem sizeT_eq : ∀ {a b : List Int}, a.length = b.length → sizeT a b = some (.int .i64 (cmpR a b))
 | [], [], _ => rfl
 | x :: r, y :: q, h => by
  have ih := sizeT_eq (a := r) (b := q) (by simpa using h)
  show byB (!eqI x x) _ _ = _
  rw [eqI_self, eqI_self]
  show byB (!leI y x) _ (byB (!leI x y) _ (sizeT r q)) = _
  rw [ih]
  show _ = some (AV.int .i64 (bif leI y x then (bif leI x y then cmpR r q else 1) else -1))
  cases leI y x with
  | false => rfl
  | true =>
   cases leI x y with
   | false => rfl
   | true => rfl
 | [], _ :: _, h => by simp at h
 | _ :: _, [], h => by simp at h
def F134 : List AV → Option (Bool × AV)
 | [.lst a n _ _, .lst b m _ _] => some (lim3 n a && lim3 m b, .int .i64 (szI (ints a) (ints b)))
 | _ => none
theorem ints_u32s : ∀ l : List Int, ints (u32s l) = l
 | [] => rfl
 | z :: l => by show z :: ints (u32s l) = _; rw [ints_u32s l]
theorem k134 : ZOk Tryz.prog G0 134 F134 := z_known (D := noLive) (m := 40) (loops := 0) (n := 5) hm hn G0_plain (KnownOk.none _ _) (KnownKOk.none _) fun ar x hF => by
 unfold F134 at hF
 split at hF
 case h_2 => cases hF
 rename_i a n t1 l1 b m t2 l2
 simp only [Option.some.injEq, Prod.mk.injEq, Bool.and_eq_true] at hF
 obtain ⟨⟨h1, h2⟩, rfl⟩ := hF
 obtain ⟨la, rfl, ha, hn3, e1, _⟩ := lim3_is h1
 obtain ⟨lb, rfl, hb, hm3, e2, _⟩ := lim3_is h2
 rw [e1, e2]
 show b134 t1 l1 t2 l2 Tryz.prog la lb n m = _
 match la, ha, lb, hb with
 | [], ha, [], hb => cases ha; cases hb; exact (p134_0_0 t1 l1 t2 l2)
 | [], ha, [b0], hb => cases ha; cases hb; exact (p134_0_1 b0 t1 l1 t2 l2)
 | [], ha, [b0, b1], hb => cases ha; cases hb; exact (p134_0_2 b0 b1 t1 l1 t2 l2)
 | [], ha, [b0, b1, b2], hb => cases ha; cases hb; exact (p134_0_3 b0 b1 b2 t1 l1 t2 l2)
 | [a0], ha, [], hb => cases ha; cases hb; exact (p134_1_0 a0 t1 l1 t2 l2)
 | [a0], ha, [b0], hb => cases ha; cases hb; exact (p134_1_1 a0 b0 t1 l1 t2 l2).trans (sizeT_eq rfl)
 | [a0], ha, [b0, b1], hb => cases ha; cases hb; exact (p134_1_2 a0 b0 b1 t1 l1 t2 l2)
 | [a0], ha, [b0, b1, b2], hb => cases ha; cases hb; exact (p134_1_3 a0 b0 b1 b2 t1 l1 t2 l2)
 | [a0, a1], ha, [], hb => cases ha; cases hb; exact (p134_2_0 a0 a1 t1 l1 t2 l2)
 | [a0, a1], ha, [b0], hb => cases ha; cases hb; exact (p134_2_1 a0 a1 b0 t1 l1 t2 l2)
 | [a0, a1], ha, [b0, b1], hb => cases ha; cases hb; exact (p134_2_2 a0 a1 b0 b1 t1 l1 t2 l2).trans (sizeT_eq rfl)
 | [a0, a1], ha, [b0, b1, b2], hb => cases ha; cases hb; exact (p134_2_3 a0 a1 b0 b1 b2 t1 l1 t2 l2)
 | [a0, a1, a2], ha, [], hb => cases ha; cases hb; exact (p134_3_0 a0 a1 a2 t1 l1 t2 l2)
 | [a0, a1, a2], ha, [b0], hb => cases ha; cases hb; exact (p134_3_1 a0 a1 a2 b0 t1 l1 t2 l2)
 | [a0, a1, a2], ha, [b0, b1], hb => cases ha; cases hb; exact (p134_3_2 a0 a1 a2 b0 b1 t1 l1 t2 l2)
 | [a0, a1, a2], ha, [b0, b1, b2], hb => cases ha; cases hb; exact (p134_3_3 a0 a1 a2 b0 b1 b2 t1 l1 t2 l2).trans (sizeT_eq rfl)
 | _ :: _ :: _ :: _ :: _, ha, _, _ => simp only [List.length_cons] at ha; omega
 | _, _, _ :: _ :: _ :: _ :: _, hb => simp only [List.length_cons] at hb; omega
end Go.Am.Sto
end
section
namespace Go.Am.Sto
open Go Go.Am Go.Proofs
def lims (l : List Int) : Prop := ∀ z ∈ l, 0 ≤ z ∧ z < 1000000000
theorem minus_cell {x y : Int} (hx : 0 ≤ x ∧ x < 1000000000) (hy : 0 ≤ y ∧ y ≤ 1000000000) (h : y ≤ x) : isLimb (.int .u32 (W32' (x - y))) = true := by
 unfold W32'
 rw [w32 (by omega) (by omega)]
 exact isLimb_of (by omega) (by omega)
theorem minus_cell' {x y : Int} (hx : 0 ≤ x ∧ x < 1000000000) (hy : 0 ≤ y ∧ y ≤ 1000000000) (h : x < y) : isLimb (.int .u32 (W32' (W32' (x + 1000000000) - y))) = true := by
 unfold W32'
 rw [w32 (x := x + 1000000000) (by omega) (by omega), w32 (by omega) (by omega)]
 exact isLimb_of (by omega) (by omega)
theorem minusT_ok : ∀ (a b : List Int) (i : Nat) (w : Int) (acc : List AV), lims a → lims b → (0 ≤ w ∧ w ≤ 1) → ∃ cs, minusT a b i w acc = some ⟨acc ++ cs, i + a.length, 1, 75⟩ ∧ cs.length = a.length ∧ cs.all isLimb = true
 | [], _, i, w, acc, _, _, _ => ⟨[], by simp [minusT], rfl, rfl⟩
 | x :: r, [], i, w, acc, ha, hb, hw => by
  have hx := ha x (by simp)
  have har : lims r := fun z hz => ha z (by simp [hz])
  unfold minusT
  by_cases hc : w ≤ x
  ·rw [leI_t hc]
   obtain ⟨cs, e1, e2, e3⟩ := minusT_ok r [] (i + 1) 0 (acc ++ [.int .u32 (W32' (x - w))]) har hb ⟨by omega, by omega⟩
   refine ⟨.int .u32 (W32' (x - w)) :: cs, ?_, by simp [e2], by rw [List.all_cons, e3, minus_cell hx ⟨by omega, by omega⟩ hc]; rfl⟩
   show minusT r [] (i + 1) 0 _ = _
   rw [e1]
   simp [Nat.add_comm, Nat.add_left_comm]
  ·rw [leI_f (show x < w by omega)]
   obtain ⟨cs, e1, e2, e3⟩ := minusT_ok r [] (i + 1) 1 (acc ++ [.int .u32 (W32' (W32' (x + 1000000000) - w))]) har hb ⟨by omega, by omega⟩
   refine ⟨.int .u32 (W32' (W32' (x + 1000000000) - w)) :: cs, ?_, by simp [e2], by rw [List.all_cons, e3, minus_cell' hx ⟨by omega, by omega⟩ (by omega)]; rfl⟩
   show minusT r [] (i + 1) 1 _ = _
   rw [e1]
   simp [Nat.add_comm, Nat.add_left_comm]
 | x :: r, y :: q, i, w, acc, ha, hb, hw => by
  have hx := ha x (by simp)
  have hy := hb y (by simp)
  have har : lims r := fun z hz => ha z (by simp [hz])
  have hbr : lims q := fun z hz => hb z (by simp [hz])
  unfold minusT
  have hy' : W32' (w + y) = w + y := w32 (by omega) (by omega)
  rw [hy']
  by_cases hc : w + y ≤ x
  ·rw [leI_t hc]
   obtain ⟨cs, e1, e2, e3⟩ := minusT_ok r q (i + 1) 0 (acc ++ [.int .u32 (W32' (x - (w + y)))]) har hbr ⟨by omega, by omega⟩
   refine ⟨.int .u32 (W32' (x - (w + y))) :: cs, ?_, by simp [e2], by rw [List.all_cons, e3, minus_cell hx ⟨by omega, by omega⟩ hc]; rfl⟩
   show minusT r q (i + 1) 0 _ = _
   rw [e1]
   simp [Nat.add_comm, Nat.add_left_comm]
  ·rw [leI_f (show x < w + y by omega)]
   obtain ⟨cs, e1, e2, e3⟩ := minusT_ok r q (i + 1) 1 (acc ++ [.int .u32 (W32' (W32' (x + 1000000000) - (w + y)))]) har hbr ⟨by omega, by omega⟩
   refine ⟨.int .u32 (W32' (W32' (x + 1000000000) - (w + y))) :: cs, ?_, by simp [e2], by rw [List.all_cons, e3, minus_cell' hx ⟨by omega, by omega⟩ (by omega)]; rfl⟩
   show minusT r q (i + 1) 1 _ = _
   rw [e1]
   simp [Nat.add_comm, Nat.add_left_comm]
def noRow : NewRow := ⟨[], 0, 1, 75⟩
def minusR (a b : List Int) : NewRow := (minusT a b 0 0 []).getD noRow
def F135 : List AV → Option (Bool × NewRow)
 | [.lst a n _ nl, .lst b m _ _] => some (lim3 n a && (lim3 m b && (Nat.ble m n && (Nat.ble 1 n && !nl))), minusR (ints a) (ints b))
 | _ => none
theorem minusR_ok {a b : List Int} (ha : lims a) (hb : lims b) : ∃ cs, minusT a b 0 0 [] = some ⟨cs, a.length, 1, 75⟩ ∧ minusR a b = ⟨cs, a.length, 1, 75⟩ ∧ cs.length = a.length ∧ cs.all isLimb = true := by
 obtain ⟨cs, e1, e2, e3⟩ := minusT_ok a b 0 0 [] ha hb ⟨by omega, by omega⟩
 rw [List.nil_append, Nat.zero_add] at e1
 exact ⟨cs, e1, by unfold minusR; rw [e1]; rfl, e2, e3⟩
theorem k135 : RowOk Tryz.prog G0 135 F135 := row_known (D := noLive) (m := 40) (loops := 0) (n := 5) hm hn G0_plain (KnownOk.none _ _) (KnownKOk.none _) fun ar x hF => by
 unfold F135 at hF
 split at hF
 case h_2 => cases hF
 rename_i a n t1 l1 b m t2 l2
 simp only [Option.some.injEq, Prod.mk.injEq, Bool.and_eq_true, Bool.not_eq_true'] at hF
 obtain ⟨⟨h1, h2, h3, h4, rfl⟩, rfl⟩ := hF
 obtain ⟨la, rfl, ha, hn3, e1, hla⟩ := lim3_is h1
 obtain ⟨lb, rfl, hb, hm3, e2, hlb⟩ := lim3_is h2
 have h3 := Nat.le_of_ble_eq_true h3
 have h4 := Nat.le_of_ble_eq_true h4
 obtain ⟨cs, q1, q2, _⟩ := minusR_ok hla hlb
 rw [e1, e2, q2, ← q1]
 show b135 t1 t2 l2 Tryz.prog la lb n m = _
 match la, ha, lb, hb with
 | [], ha, _, _ => simp only [List.length_nil] at ha; omega
 | [a0], ha, [], hb => cases ha; cases hb; exact (p135_1_0 a0 t1 t2 l2).trans rfl
 | [a0], ha, [b0], hb => cases ha; cases hb; exact (p135_1_1 a0 b0 t1 t2 l2)
 | [_], ha, _ :: _ :: _, hb => simp only [List.length_cons, List.length_nil] at ha hb; omega
 | [a0, a1], ha, [], hb => cases ha; cases hb; exact (p135_2_0 a0 a1 t1 t2 l2)
 | [a0, a1], ha, [b0], hb => cases ha; cases hb; exact (p135_2_1 a0 a1 b0 t1 t2 l2)
 | [a0, a1], ha, [b0, b1], hb => cases ha; cases hb; exact (p135_2_2 a0 a1 b0 b1 t1 t2 l2)
 | [_, _], ha, _ :: _ :: _ :: _, hb => simp only [List.length_cons, List.length_nil] at ha hb; omega
 | [a0, a1, a2], ha, [], hb => cases ha; cases hb; exact (p135_3_0 a0 a1 a2 t1 t2 l2)
 | [a0, a1, a2], ha, [b0], hb => cases ha; cases hb; exact (p135_3_1 a0 a1 a2 b0 t1 t2 l2)
 | [a0, a1, a2], ha, [b0, b1], hb => cases ha; cases hb; exact (p135_3_2 a0 a1 a2 b0 b1 t1 t2 l2)
 | [a0, a1, a2], ha, [b0, b1, b2], hb => cases ha; cases hb; exact (p135_3_3 a0 a1 a2 b0 b1 b2 t1 t2 l2)
 | [_, _, _], ha, _ :: _ :: _ :: _ :: _, hb => simp only [List.length_cons] at ha hb; omega
 | _ :: _ :: _ :: _ :: _, ha, _, _ => simp only [List.length_cons] at ha; omega
end Go.Am.Sto
end
section
namespace Go.Am.Sto
open Go Go.Am Go.Proofs
theorem plus_cell {v : Int} (h0 : 0 ≤ v) (h1 : v ≤ 1999999999) : W32 v = v ∧ isLimb (.int .u32 (v.tmod 1000000000)) = true ∧ (0 ≤ W32 (v.tdiv 1000000000) ∧ W32 (v.tdiv 1000000000) ≤ 1) ∧ (v < 1000000000 → v.tmod 1000000000 = v ∧ W32 (v.tdiv 1000000000) = 0) := by
 have e1 : v.tdiv 1000000000 = v / 1000000000 := Int.tdiv_eq_ediv_of_nonneg h0
 have e2 : v.tmod 1000000000 = v % 1000000000 := Int.tmod_eq_emod_of_nonneg h0
 have e3 : W32 (v.tdiv 1000000000) = v / 1000000000 := by rw [e1]; exact w32 (by omega) (by omega)
 refine ⟨w32 h0 (by omega), by rw [e2]; exact isLimb_of (by omega) (by omega), by rw [e3]; omega, fun h => ⟨by rw [e2]; omega, by rw [e3]; omega⟩⟩
theorem nn_of {cs : List AV} {i : Nat} {x : AV} (h : cs[i]? = some x) : nonNil cs = true := by
 cases cs with
 | nil => simp at h
 | cons => rfl
theorem blt_f {i m : Nat} (h : ¬ i < m) : Nat.blt i m = false := by
 cases hb : Nat.blt i m with
 | false => rfl
 | true => exact absurd (Nat.le_of_ble_eq_true hb) h
section
variable {a b : List AV} {n m : Nat} (ha : ∀ i, i < n → ∃ z, a[i]? = some (.int .u32 z) ∧ 0 ≤ z ∧ z < 1000000000) (hb : ∀ i, i < m → ∃ z, b[i]? = some (.int .u32 z) ∧ 0 ≤ z ∧ z < 1000000000)
include ha hb
theorem plus_step {k i : Nat} {c : Int} {acc : List AV} (hi : i < n) (hc : 0 ≤ c ∧ c ≤ 1) : ∃ c' x', plusT a b m (k + 1) i c acc = plusT a b m k (i + 1) c' (acc ++ [x']) ∧ (0 ≤ c' ∧ c' ≤ 1) ∧ isLimb x' = true := by
 obtain ⟨z, e, z0, z1⟩ := ha i hi
 obtain ⟨q1, q2, q3, _⟩ := plus_cell (v := z + c) (by omega) (by omega)
 by_cases him : i < m
 ·obtain ⟨y, f, y0, y1⟩ := hb i him
  obtain ⟨r1, r2, r3, _⟩ := plus_cell (v := z + c + y) (by omega) (by omega)
  refine ⟨W32 ((z + c + y).tdiv 1000000000), .int .u32 ((z + c + y).tmod 1000000000), ?_, r3, r2⟩
  show ifK (nonNil a) (opt1 .u32 (fun x => bif Nat.blt i m then _ else _) (a[i]?)) = _
  rw [nn_of e, e]
  show (bif Nat.blt i m then ifK (nonNil b) (opt1 .u32 (fun y => _) (b[i]?)) else _) = _
  rw [show Nat.blt i m = true by simpa using him, nn_of f, f]
  show plusT a b m k (i + 1) (W32 ((W32 (W32 (z + c) + y)).tdiv 1000000000)) (acc ++ [.int .u32 ((W32 (W32 (z + c) + y)).tmod 1000000000)]) = _
  rw [q1, r1]
 ·refine ⟨W32 ((z + c).tdiv 1000000000), .int .u32 ((z + c).tmod 1000000000), ?_, q3, q2⟩
  show ifK (nonNil a) (opt1 .u32 (fun x => bif Nat.blt i m then _ else _) (a[i]?)) = _
  rw [nn_of e, e]
  show (bif Nat.blt i m then _ else _) = _
  rw [blt_f him]
  show plusT a b m k (i + 1) (W32 ((W32 (z + c)).tdiv 1000000000)) (acc ++ [.int .u32 ((W32 (z + c)).tmod 1000000000)]) = _
  rw [q1]
theorem plusT_ok : ∀ (k i : Nat) (c : Int) (acc : List AV), i + k = n → (0 ≤ c ∧ c ≤ 1) → acc.length = i → acc.all isLimb = true → ∃ cs, plusT a b m k i c acc = some ⟨cs, n + 1, 1, 75⟩ ∧ cs.length = n + 1 ∧ cs.all isLimb = true ∧ ∃ z, cs[n]? = some (.int .u32 z) ∧ 0 ≤ z ∧ z ≤ 1
 | 0, i, c, acc, h, hc, hl, hall => by
  refine ⟨acc ++ [.int .u32 c], ?_, by simp; omega, by rw [List.all_append, hall]; simp [isLimb_of hc.1 (show c < 1000000000 by omega)], c, by rw [List.getElem?_append_right (by omega)]; simp [show n - acc.length = 0 by omega], hc.1, hc.2⟩
  show some (NewRow.mk _ (i + 1) 1 75) = _
  rw [show i = n by omega]
 | k + 1, i, c, acc, h, hc, hl, hall => by
  obtain ⟨c', x', e, hc', hx'⟩ := plus_step ha hb (k := k) (i := i) (acc := acc) (by omega) hc
  rw [e]
  exact plusT_ok k (i + 1) c' (acc ++ [x']) (by omega) hc' (by simp [hl]) (by rw [List.all_append, hall]; simp [hx'])
theorem plusT_3 (hn : n = 3) (hm : m ≤ 2) {z2 : Int} (h2 : a[2]? = some (.int .u32 z2)) (hz : 0 ≤ z2 ∧ z2 < 999999999) : ∃ cs z, plusT a b m 3 0 0 [] = some ⟨cs, 4, 1, 75⟩ ∧ cs.length = 4 ∧ cs.all isLimb = true ∧ cs[2]? = some (.int .u32 z) ∧ z ≤ z2 + 1 ∧ cs[3]? = some (.int .u32 0) := by
 subst hn
 obtain ⟨c1, x1, e1, hc1, hx1⟩ := plus_step ha hb (k := 2) (i := 0) (c := 0) (acc := []) (by omega) ⟨by omega, by omega⟩
 obtain ⟨c2, x2, e2, hc2, hx2⟩ := plus_step ha hb (k := 1) (i := 1) (c := c1) (acc := [] ++ [x1]) (by omega) hc1
 obtain ⟨q1, q2, q3, q4⟩ := plus_cell (v := z2 + c2) (by omega) (by omega)
 obtain ⟨q5, q6⟩ := q4 (by omega)
 refine ⟨[x1, x2, .int .u32 (z2 + c2), .int .u32 0], z2 + c2, ?_, rfl, ?_, rfl, by omega, rfl⟩
 ·rw [e1, e2]
  show ifK (nonNil a) (opt1 .u32 (fun x => bif Nat.blt 2 m then _ else _) (a[2]?)) = _
  rw [nn_of h2, h2]
  show (bif Nat.blt 2 m then _ else _) = _
  rw [blt_f (show ¬ 2 < m by omega)]
  show some (NewRow.mk ([x1, x2, .int .u32 ((W32 (z2 + c2)).tmod 1000000000), .int .u32 (W32 ((W32 (z2 + c2)).tdiv 1000000000))]) 4 1 75) = _
  rw [q1, q5, q6]
 ·simp only [List.all_cons, List.all_nil, hx1, hx2]
  rw [isLimb_of (z := z2 + c2) (by omega) (by omega)]; rfl
end
def plusR (a b : List AV) (n m : Nat) : NewRow := (bif Nat.blt n m then plusT b a n m 0 0 [] else plusT a b m n 0 0 []).getD noRow
def F133 : List AV → Option (Bool × NewRow)
 | [.lst a n _ _, .lst b m _ _] => some (lim3 n a && lim3 m b, plusR a b n m)
 | _ => none
theorem lim3_get {n : Nat} {a : List AV} (h : lim3 n a = true) : ∀ i, i < n → ∃ z, a[i]? = some (.int .u32 z) ∧ 0 ≤ z ∧ z < 1000000000 := by
 unfold lim3 at h
 rw [Bool.and_eq_true] at h
 exact (limbsOk_eq h.2).2.2
theorem plusR_ok {a b : List AV} {n m : Nat} (ha : lim3 n a = true) (hb : lim3 m b = true) : ∃ R, (bif Nat.blt n m then plusT b a n m 0 0 [] else plusT a b m n 0 0 []) = some R ∧ plusR a b n m = R := by
 have e : ∃ R, (bif Nat.blt n m then plusT b a n m 0 0 [] else plusT a b m n 0 0 []) = some R := by
  cases Nat.blt n m with
  | true => obtain ⟨cs, e, _⟩ := plusT_ok (lim3_get hb) (lim3_get ha) m 0 0 [] (by omega) ⟨by omega, by omega⟩ rfl rfl; exact ⟨_, e⟩
  | false => obtain ⟨cs, e, _⟩ := plusT_ok (lim3_get ha) (lim3_get hb) n 0 0 [] (by omega) ⟨by omega, by omega⟩ rfl rfl; exact ⟨_, e⟩
 obtain ⟨R, e⟩ := e
 exact ⟨R, e, by unfold plusR; rw [e]; rfl⟩
theorem k133 : RowOk Tryz.prog G0 133 F133 := row_known (D := noLive) (m := 40) (loops := 0) (n := 5) hm hn G0_plain (KnownOk.none _ _) (KnownKOk.none _) fun ar x hF => by
 unfold F133 at hF
 split at hF
 case h_2 => cases hF
 rename_i a n t1 l1 b m t2 l2
 simp only [Option.some.injEq, Prod.mk.injEq, Bool.and_eq_true] at hF
 obtain ⟨⟨h1, h2⟩, rfl⟩ := hF
 obtain ⟨R, e1, e2⟩ := plusR_ok h1 h2
 rw [e2, ← e1]
 have hn := (lim3_eq h1).1
 have hm := (lim3_eq h2).1
 show b133 a b t1 l1 t2 l2 Tryz.prog n m = _
 match n, m, hn, hm with
 | 0, 0, _, _ => exact p133_0_0 a b t1 l1 t2 l2
 | 0, 1, _, _ => exact p133_0_1 a b t1 l1 t2 l2
 | 0, 2, _, _ => exact p133_0_2 a b t1 l1 t2 l2
 | 0, 3, _, _ => exact p133_0_3 a b t1 l1 t2 l2
 | 1, 0, _, _ => exact p133_1_0 a b t1 l1 t2 l2
 | 1, 1, _, _ => exact p133_1_1 a b t1 l1 t2 l2
 | 1, 2, _, _ => exact p133_1_2 a b t1 l1 t2 l2
 | 1, 3, _, _ => exact p133_1_3 a b t1 l1 t2 l2
 | 2, 0, _, _ => exact p133_2_0 a b t1 l1 t2 l2
 | 2, 1, _, _ => exact p133_2_1 a b t1 l1 t2 l2
 | 2, 2, _, _ => exact p133_2_2 a b t1 l1 t2 l2
 | 2, 3, _, _ => exact p133_2_3 a b t1 l1 t2 l2
 | 3, 0, _, _ => exact p133_3_0 a b t1 l1 t2 l2
 | 3, 1, _, _ => exact p133_3_1 a b t1 l1 t2 l2
 | 3, 2, _, _ => exact p133_3_2 a b t1 l1 t2 l2
 | 3, 3, _, _ => exact p133_3_3 a b t1 l1 t2 l2
 | n + 4, _, h, _ => omega
 | _, m + 4, _, h => omega
end Go.Am.Sto
end
section
namespace Go.Am.Sto
open Go Go.Am Go.Proofs
section
variable (sn : Bool → List AV → Nat → Bool) (cp cm cz : List AV → Nat → List AV → Nat → Bool → Bool) (rp rm : List AV → Nat → List AV → Nat → List AV) (lp lm : List AV → Nat → List AV → Nat → Nat) (sz : List AV → Nat → List AV → Nat → Int)
def F35v : List AV → Option (Bool × AV)
 | [.agg [.bool neg, .lst cs n _ _]] => some (sn neg cs n, .bool true)
 | _ => none
def F133v : List AV → Option (Bool × NewRow)
 | [.lst a n _ nl, .lst b m _ _] => some (cp a n b m nl, ⟨rp a n b m, lp a n b m, 1, 75⟩)
 | _ => none
def F135v : List AV → Option (Bool × NewRow)
 | [.lst a n _ nl, .lst b m _ _] => some (cm a n b m nl, ⟨rm a n b m, lm a n b m, 1, 75⟩)
 | _ => none
def F134v : List AV → Option (Bool × AV)
 | [.lst a n _ nl, .lst b m _ _] => some (cz a n b m nl, .int .i64 (sz a n b m))
 | _ => none
def X70 : Known := ((((Known.none.add 35 (zX (F35v sn))).add 133 (rowX (F133v cp rp lp))).add 135 (rowX (F135v cm rm lm))).add 134 (zX (F134v cz sz))).add 137 cutX
def Y70 {β : Type} : KnownK β := ((((KnownK.none.add 35 (zK (F35v sn))).add 133 (rowK (F133v cp rp lp))).add 135 (rowK (F135v cm rm lm))).add 134 (zK (F134v cz sz))).add 137 cutK
def b70 (P : Program) (ng : Bool) (a : List AV) (n : Nat) (t1 l1 : Bool) (mg : Bool) (b : List AV) (m : Nat) (t2 l2 : Bool) : Option AV :=
 bodyY P G0 (X70 sn cp cm cz rp rm lp lm sz) (Y70 sn cp cm cz rp rm lp lm sz) 0 8 noLive Res.fresh0? 3 P.funcs[70]? [.agg [.bool ng, .lst a n t1 l1], .agg [.bool mg, .lst b m t2 l2]] St.empty
abbrev numR3 (ng : Bool) (v : List AV) (k : Nat) (t nl : Bool) (e : Int) : Option AV := some (.tup [.agg [.bool ng, .lst v k t nl], .int .i64 e])
def ofT (ng : Bool) (cs : List AV) (len : Nat) : Option AV := optK (fun v => ifK (cutC len v) (byB (!leI (.ofNat (trimA v len)) 64) (numR3 false [] 0 false true 6)
 (byB (Nat.beq (trimA v len) 0) (numR3 (bif ng then !leI (.ofNat (trimA v len)) 0 else false) [] 0 false false 0)
  (optK (fun v2 => ifK (Nat.blt 0 (trimA v len) && AV.flats v2) (numR3 (bif ng then !leI (.ofNat (trimA v len)) 0 else false) v2 (trimA v len) false false 0)) (cutN (trimA v len * 1) 0 cs))))) (cutN len 0 cs)
section
variable (a : List AV) (n : Nat) (t1 l1 : Bool) (b : List AV) (m : Nat) (t2 l2 : Bool)
def bothP (ng mg : Bool) (x : Option AV) : Option AV := ifK (AV.plain (.agg [.bool ng, .lst a n t1 l1])) (ifK (sn ng a n) (ifK (AV.plain (.agg [.bool mg, .lst b m t2 l2])) (ifK (sn mg b m) x)))
def pl2 (x : Option AV) : Option AV := ifK (AV.plain (.lst a n t1 l1)) (ifK (AV.plain (.lst b m t2 l2)) x)
def sameT (ng : Bool) : Option AV := pl2 a n t1 l1 b m t2 l2 (ifK (cp a n b m l1) (ofT ng (rp a n b m) (lp a n b m)))
def diffT (ng mg : Bool) : Option AV := pl2 a n t1 l1 b m t2 l2 (ifK (cz a n b m l1) (byB (leI 0 (sz a n b m)) (pl2 a n t1 l1 b m t2 l2 (ifK (cm a n b m l1) (ofT ng (rm a n b m) (lm a n b m)))) (pl2 b m t2 l2 a n t1 l1 (ifK (cm b m a n l2) (ofT mg (rm b m a n) (lm b m a n))))))
theorem t70ff : b70 sn cp cm cz rp rm lp lm sz Tryz.prog false a n t1 l1 false b m t2 l2 = bothP sn a n t1 l1 b m t2 l2 false false (sameT cp rp lp a n t1 l1 b m t2 l2 false) := by kernel_rfl
theorem t70tt : b70 sn cp cm cz rp rm lp lm sz Tryz.prog true a n t1 l1 true b m t2 l2 = bothP sn a n t1 l1 b m t2 l2 true true (sameT cp rp lp a n t1 l1 b m t2 l2 true) := by kernel_rfl
theorem t70ft : b70 sn cp cm cz rp rm lp lm sz Tryz.prog false a n t1 l1 true b m t2 l2 = bothP sn a n t1 l1 b m t2 l2 false true (diffT cm cz rm lm sz a n t1 l1 b m t2 l2 false true) := by kernel_rfl
theorem t70tf : b70 sn cp cm cz rp rm lp lm sz Tryz.prog true a n t1 l1 false b m t2 l2 = bothP sn a n t1 l1 b m t2 l2 true false (diffT cm cz rm lm sz a n t1 l1 b m t2 l2 true false) := by kernel_rfl
end
end
end Go.Am.Sto
end
section
namespace Go.Am.Sto
open Go Go.Am Go.Proofs
theorem all_get {cs : List AV} (h : cs.all isLimb = true) {i : Nat} (hi : i < cs.length) : ∃ z, cs[i]? = some (.int .u32 z) ∧ 0 ≤ z ∧ z < 1000000000 := by
 obtain ⟨z, e, h4, h5⟩ := isLimb_eq (List.all_eq_true.1 h cs[i] (List.getElem_mem hi))
 exact ⟨z, by rw [List.getElem?_eq_getElem hi, e], h4, h5⟩
theorem isLimb_isU {cs : List AV} (h : cs.all isLimb = true) : cs.all isU = true := by
 rw [List.all_eq_true] at h ⊢
 intro x hx
 obtain ⟨z, rfl, _⟩ := isLimb_eq (h x hx)
 rfl
theorem isLimb_flats {cs : List AV} (h : cs.all isLimb = true) : AV.flats cs = true := by
 induction cs with
 | nil => rfl
 | cons a l ih =>
  rw [List.all_cons, Bool.and_eq_true] at h
  obtain ⟨z, rfl, _⟩ := isLimb_eq h.1
  show (true && AV.flats l) = true
  rw [ih h.2]; rfl
theorem trimA_top {cs : List AV} (h : cs.all isLimb = true) : ∀ (len k : Nat), len ≤ cs.length → trimA cs len = k + 1 → ∃ z, cs[k]? = some (.int .u32 z) ∧ z ≠ 0
 | 0, k, _, e => by cases e
 | len + 1, k, hl, e => by
  obtain ⟨z, ez, _, _⟩ := all_get h (i := len) (by omega)
  simp only [trimA, ez] at e
  cases hz : eqI z 0 with
  | true => rw [hz] at e; exact trimA_top h len k (by omega) e
  | false =>
   rw [hz] at e
   have e : len + 1 = k + 1 := e
   cases e
   exact ⟨z, ez, fun h0 => by subst h0; cases hz⟩
theorem take_limbs {cs : List AV} (h : cs.all isLimb = true) (k : Nat) : (cs.take k).all isLimb = true := by
 rw [List.all_eq_true] at h ⊢
 exact fun x hx => h x (List.mem_of_mem_take hx)
theorem takeN_take : ∀ {cs : List AV} {k : Nat}, k ≤ cs.length → takeN k cs = some (cs.take k)
 | _, 0, _ => rfl
 | [], k + 1, h => by simp at h
 | a :: l, k + 1, h => by
  simp only [takeN]
  rw [takeN_take (cs := l) (k := k) (by simpa using h)]; rfl
theorem cutN_take {cs : List AV} {k : Nat} (h : k ≤ cs.length) : cutN k 0 cs = some (cs.take k) := by
 unfold cutN
 rw [List.drop_zero]
 exact takeN_take h
theorem eqI_is : ∀ {a b : Int}, eqI a b = true → a = b
 | .ofNat a, .ofNat b, h => by rw [Nat.eq_of_beq_eq_true (show a.beq b = true from h)]
 | .negSucc a, .negSucc b, h => by rw [Nat.eq_of_beq_eq_true (show a.beq b = true from h)]
 | .ofNat _, .negSucc _, h => by cases h
 | .negSucc _, .ofNat _, h => by cases h
theorem eqI_neA {a b : Int} (h : a ≠ b) : eqI a b = false := by
 cases hh : eqI a b with
 | false => rfl
 | true => exact absurd (eqI_is hh) h
theorem limbsOk_of {n : Nat} {cs : List AV} (hn : n ≤ 65) (hl : cs.length = n) (h : cs.all isLimb = true) : limbsOk n cs = true := by
 unfold limbsOk
 rw [Nat.ble_eq_true_of_le hn, hl, Nat.beq_refl, h]; rfl
theorem ofT_ok (ng : Bool) {cs : List AV} {len : Nat} (hc : cs.all isLimb = true) (hl : cs.length = len) (hlen : len ≤ 65) (ht : trimA cs len ≤ 64) :
  ∃ g, ofT ng cs len = numR3 g (cs.take (trimA cs len)) (trimA cs len) false false 0 ∧ sndG g (cs.take (trimA cs len)) (trimA cs len) = true := by
 have hk := trimA_le cs len
 have htop := trimA_top hc len
 have hcut : cutN len 0 cs = some cs := by rw [cutN_take (by omega), ← hl, List.take_length]
 have hcut2 : cutN (trimA cs len * 1) 0 cs = some (cs.take (trimA cs len)) := by rw [Nat.mul_one]; exact cutN_take (by omega)
 have hC : cutC len cs = true := by unfold cutC; rw [Nat.ble_eq_true_of_le hlen, isLimb_isU hc]; rfl
 refine ⟨bif ng then !leI (.ofNat (trimA cs len)) 0 else false, ?_, ?_⟩
 ·unfold ofT
  rw [hcut]
  refine (ifK_t hC _).trans ?_
  generalize hkk : trimA cs len = k at *
  refine (byB_f (by rw [leI_t (show Int.ofNat k ≤ 64 by simp only [Int.ofNat_eq_natCast]; omega)]; rfl) _ _).trans ?_
  cases k with
  | zero => rfl
  | succ k =>
   refine (byB_f rfl _ _).trans ?_
   rw [hcut2]
   exact ifK_t (by rw [isLimb_flats (take_limbs hc _)]; simp) _
 ·generalize hkk : trimA cs len = k at *
  unfold sndG
  rw [Nat.ble_eq_true_of_le ht, limbsOk_of (n := k) (cs := cs.take k) (by omega) (by rw [List.length_take]; omega) (take_limbs hc k)]
  cases k with
  | zero => cases ng <;> rfl
  | succ k =>
   obtain ⟨z, e, hz⟩ := htop k (by omega) rfl
   have : (cs.take (k + 1))[k]? = some (.int .u32 z) := by rw [List.getElem?_take, if_pos (by omega), e]
   simp only [this]
   rw [eqI_neA hz]; rfl
end Go.Am.Sto
end
section
namespace Go.Am
theorem row_mono {P : Program} {G : Glob} {f : FuncId} {F F' : List AV → Option (Bool × NewRow)} (h : RowOk P G f F) (hF : ∀ ar x, F' ar = some (true, x) → F ar = some (true, x)) : RowOk P G f F' := by
 intro args s E w vs h0 hG ha
 have k := h args s E w vs h0 hG ha
 unfold rowX at k ⊢
 split
 ·rename_i ar har
  simp only [har] at k
  split
  ·rename_i p hp
   obtain ⟨c, x⟩ := p
   cases c with
   | false => trivial
   | true => rw [hF ar x hp] at k; exact k
  ·trivial
 ·trivial
theorem z_mono {P : Program} {G : Glob} {f : FuncId} {F F' : List AV → Option (Bool × AV)} (h : ZOk P G f F) (hF : ∀ ar x, F' ar = some (true, x) → F ar = some (true, x)) : ZOk P G f F' := by
 intro args s E w vs h0 hG ha
 have k := h args s E w vs h0 hG ha
 unfold zX at k ⊢
 split
 ·rename_i ar har
  simp only [har] at k
  split
  ·rename_i p hp
   obtain ⟨c, x⟩ := p
   cases c with
   | false => trivial
   | true => rw [hF ar x hp] at k; exact k
  ·trivial
 ·trivial
end Go.Am
namespace Go.Am.Sto
open Go Go.Am Go.Proofs
abbrev cpS (a : List AV) (n : Nat) (b : List AV) (m : Nat) (_ : Bool) : Bool := lim3 n a && lim3 m b
abbrev cmS (a : List AV) (n : Nat) (b : List AV) (m : Nat) (nl : Bool) : Bool := lim3 n a && (lim3 m b && (Nat.ble m n && (Nat.ble 1 n && !nl)))
abbrev rpS (a : List AV) (n : Nat) (b : List AV) (m : Nat) : List AV := (plusR a b n m).cs
abbrev lpS (a : List AV) (n : Nat) (b : List AV) (m : Nat) : Nat := (plusR a b n m).len
abbrev rmS (a : List AV) (_ : Nat) (b : List AV) (_ : Nat) : List AV := (minusR (ints a) (ints b)).cs
abbrev lmS (a : List AV) (_ : Nat) (b : List AV) (_ : Nat) : Nat := (minusR (ints a) (ints b)).len
abbrev szS (a : List AV) (_ : Nat) (b : List AV) (_ : Nat) : Int := szI (ints a) (ints b)
abbrev X70s : Known := X70 sndG cpS cmS cpS rpS rmS lpS lmS szS
abbrev Y70s {β : Type} : KnownK β := Y70 sndG cpS cmS cpS rpS rmS lpS lmS szS
theorem plusR_row {a b : List AV} {n m : Nat} (ha : lim3 n a = true) (hb : lim3 m b = true) : plusR a b n m = ⟨(plusR a b n m).cs, (plusR a b n m).len, 1, 75⟩ := by
 obtain ⟨R, e, e2⟩ := plusR_ok ha hb
 rw [e2]
 cases h : Nat.blt n m with
 | true =>
  rw [h] at e
  obtain ⟨cs, e3, _⟩ := plusT_ok (lim3_get hb) (lim3_get ha) m 0 0 [] (by omega) ⟨by omega, by omega⟩ rfl rfl
  have e : plusT b a n m 0 0 [] = some R := e
  rw [e3] at e; cases e; rfl
 | false =>
  rw [h] at e
  obtain ⟨cs, e3, _⟩ := plusT_ok (lim3_get ha) (lim3_get hb) n 0 0 [] (by omega) ⟨by omega, by omega⟩ rfl rfl
  have e : plusT a b m n 0 0 [] = some R := e
  rw [e3] at e; cases e; rfl
theorem k133v : RowOk Tryz.prog G0 133 (F133v cpS rpS lpS) := row_mono k133 fun ar x hF => by
 unfold F133v at hF
 split at hF
 case h_2 => cases hF
 simp only [Option.some.injEq, Prod.mk.injEq, Bool.and_eq_true] at hF
 obtain ⟨⟨h1, h2⟩, rfl⟩ := hF
 show some (_ && _, plusR _ _ _ _) = _
 rw [h1, h2, ← plusR_row h1 h2]; rfl
theorem k135v : RowOk Tryz.prog G0 135 (F135v cmS rmS lmS) := row_mono k135 fun ar x hF => by
 unfold F135v at hF
 split at hF
 case h_2 => cases hF
 rename_i a n t1 nl b m t2 l2
 simp only [Option.some.injEq, Prod.mk.injEq] at hF
 obtain ⟨h1, rfl⟩ := hF
 show some (cmS a n b m nl, minusR _ _) = _
 rw [h1]
 rw [Bool.and_eq_true, Bool.and_eq_true] at h1
 obtain ⟨la, _, _, _, e1, hla⟩ := lim3_is h1.1
 obtain ⟨lb, _, _, _, e2, hlb⟩ := lim3_is h1.2.1
 obtain ⟨cs, _, e3, _⟩ := minusR_ok hla hlb
 show some (true, minusR (ints a) (ints b)) = some (true, ⟨(minusR (ints a) (ints b)).cs, (minusR (ints a) (ints b)).len, 1, 75⟩)
 rw [e1, e2, e3]
theorem k134v : ZOk Tryz.prog G0 134 (F134v cpS szS) := k134
theorem k35v : ZOk Tryz.prog G0 35 (F35v sndG) := k35g
theorem kX70 : KnownOk Tryz.prog G0 X70s := (((((KnownOk.none _ _).add k35v).add k133v).add k135v).add k134v).add k137
theorem kY70 {β : Type} : KnownKOk X70s (Y70s : KnownK β) := addH' (addH' (addH' (addH' (addH' (KnownKOk.none _) 35 (zK_le _)) 133 (rowK_le _)) 135 (rowK_le _)) 134 (zK_le _)) 137 cutK_le
end Go.Am.Sto
end
