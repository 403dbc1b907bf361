/- The operations, on both sides: memory. -/
import Derived.Test.YtaiddjgpnpbckaaGreatDoorAmOp2
set_option autoImplicit false
namespace Go.Am

section
variable {P : Program} {G : Glob} {E : Env} {s : St} {w : World} {t : T} {a : Act} {o : Oper}

theorem isAgg_run {ty : TypeId} {b : Bool} (h : isAggT P ty = some b) (w : World) : (isAgg ty).run P w = .ok b w := by
  unfold isAggT at h
  cases hu : P.underlying ty with
  | none => rw [hu] at h; cases h
  | some d => rw [hu] at h; cases d <;> cases h <;> simp [isAgg, run_underlying hu]
theorem sizeT_run {ty : TypeId} {n : Nat} (h : sizeT P ty = some n) (w : World) : (sizeOf ty).run P w = .ok n w := by
  unfold sizeT at h
  cases hi : P.info? ty with
  | none => rw [hi] at h; cases h
  | some i => rw [hi] at h; cases h; simp [sizeOf, typeInfo, hi]
theorem bytesT_info {ty : TypeId} {n : Nat} (h : bytesT P ty = some n) : ∃ i, P.info? ty = some i ∧ i.bytes = n := by
  unfold bytesT at h
  cases hi : P.info? ty with
  | none => rw [hi] at h; cases h
  | some i => rw [hi] at h; cases h; exact ⟨i, rfl, rfl⟩
theorem sizeT_info {ty : TypeId} {n : Nat} (h : sizeT P ty = some n) : ∃ i, P.info? ty = some i ∧ i.size = n := by
  unfold sizeT at h
  cases hi : P.info? ty with
  | none => rw [hi] at h; cases h
  | some i => rw [hi] at h; cases h; exact ⟨i, rfl, rfl⟩
theorem zeroT_info {ty : TypeId} {z : AV} (h : zeroT P ty = some z) : ∃ i z', P.info? ty = some i ∧ i.zero = some z' ∧ ofV z' = some z := by
  unfold zeroT at h
  cases hi : P.info? ty with
  | none => rw [hi] at h; simp at h
  | some i =>
    cases hz : i.zero with
    | none => rw [hi] at h; simp [hz] at h
    | some z' => rw [hi] at h; simp [hz] at h; exact ⟨i, z', rfl, hz, h⟩
theorem zeroT_run {ty : TypeId} {z : AV} (h : zeroT P ty = some z) (w : World) : ∃ z', ofV z' = some z ∧ (zeroValue ty).run P w = .ok z' w := by
  obtain ⟨i, z', h1, h2, h3⟩ := zeroT_info h
  exact ⟨z', h3, by simp [zeroValue, typeInfo, h1, h2]⟩
theorem sliceElemT_und {ty e : TypeId} (h : sliceElemT P ty = some e) : P.underlying ty = some (.slice e) := by
  unfold sliceElemT at h
  split at h
  · rename_i e' he; cases h; exact he
  · cases h
theorem shapeT_agg {ty : TypeId} {n : Nat} (h : shapeT P ty = some (some n)) : isAggT P ty = some true ∧ sizeT P ty = some n := by
  unfold shapeT at h
  split at h <;> cases h
  rename_i h1 h2
  exact ⟨h1, h2⟩
theorem shapeT_one {ty : TypeId} (h : shapeT P ty = some none) : isAggT P ty = some false := by
  unfold shapeT at h
  split at h <;> cases h
  rename_i h1 h2
  exact h1

theorem ofV_ne : ∀ {v : Value}, ofV v ≠ some .undef := by
  intro v h
  cases v with
  | pointer p => cases p <;> simp [ofV] at h
  | map p => cases p <;> simp [ofV] at h
  | slice p n c => cases p <;> cases n <;> cases c <;> simp [ofV] at h
  | iface t v => simp only [ofV] at h; split at h <;> cases h
  | agg cs => cases cs; simp only [ofV] at h; split at h <;> cases h
  | tuple cs => cases cs; simp only [ofV] at h; split at h <;> cases h
  | func f x y =>
    obtain ⟨x⟩ := x
    obtain ⟨y⟩ := y
    cases x <;> cases y <;> simp [ofV] at h
  | _ => simp [ofV] at h

theorem VR.cells {x : AV} {v : Value} (h : VR E x v) (hx : x ≠ .undef) : VRL E x.cells v.cells.toList := by
  have key : (x.cells = [x] ∧ v.cells.toList = [v]) ∨ ∃ cs vs, x = .agg cs ∧ v = .agg ⟨vs⟩ ∧ VRL E cs vs := by
    cases h with
    | agg h => exact .inr ⟨_, _, rfl, rfl, h⟩
    | undef => exact absurd rfl hx
    | _ => exact .inl ⟨rfl, rfl⟩
  rcases key with ⟨e1, e2⟩ | ⟨cs, vs, rfl, rfl, h2⟩
  · rw [e1, e2]; exact .cons h .nil
  · exact h2
theorem single_ne {x : AV} (h : x.cells.all AV.single = true) : x ≠ .undef := by
  rintro rfl; simp [AV.cells, AV.single] at h

theorem loadC_ok (h : Rel E s w) (hG : GlobOk E G) (ht : TR E t a) {ty : TypeId} {x : Operand} (ho : o.op = .load ty x) : OpOk P E s w o a (loadC (shapeT P ty) (evC G x) t s) := by
  have hx := evC_ok hG ht x
  cases hs : shapeT P ty with
  | none => trivial
  | some sh =>
    cases sh with
    | some n =>
      obtain ⟨h1, h2⟩ := shapeT_agg hs
      refine aggO_ok h fun y hy => ?_
      obtain ⟨b, off, vs, e1, e2, e3, e4⟩ := h.cells hy hx
      refine ⟨.agg ⟨vs⟩, ?_, .agg e2⟩
      have hl : (loadCells ⟨b, off, none⟩ n).run P w = .ok ⟨vs⟩ w := by
        have := run_loadCells_list (P := P) (w := w) ⟨b, off, none⟩ vs (fun j v hj => by rw [Addr.add_lit]; exact e4 j v hj)
        rw [← e2.length, e3] at this
        exact this
      simp [execOp, ho, e1, Instr.loadAt, Instr.sureAddr, loadVar, isAgg_run h1, sizeT_run h2, hl]
    | none =>
      have h1 := shapeT_one hs
      refine valO_ok h fun y hy => ?_
      obtain ⟨b, off, u, e1, e2, e3⟩ := h.cell1 hy hx
      refine ⟨u, ?_, e2⟩
      simp [execOp, ho, e1, Instr.loadAt, Instr.sureAddr, loadVar, isAgg_run h1, e3]

theorem skipO_ok {x : Option St} (hx : ∀ s', x = some s' → ∃ w' E', (execOp a.eval o).run P w = .ok .skip w' ∧ Step E s w E' s' w') : OpOk P E s w o a (skipO x) := by
  unfold skipO
  split
  · rename_i s'; exact hx s' rfl
  · trivial

theorem storeC_ok (h : Rel E s w) (hG : GlobOk E G) (ht : TR E t a) {ty : TypeId} {x y : Operand} (ho : o.op = .store ty x y) : OpOk P E s w o a (storeC (sizeT P ty) (evC G x) (evC G y) t s) := by
  have hx := evC_ok hG ht x
  have hy := evC_ok hG ht y
  cases hs : sizeT P ty with
  | none => trivial
  | some n =>
    simp only [storeC]
    split
    · rename_i r off e1
      rw [e1] at hx
      rcases Bool.eq_false_or_eq_true (n.beq (evC G y t).cells.length && (evC G y t).cells.all AV.single) with hb | hb
      · rw [cond_of_true hb]
        rw [Bool.and_eq_true] at hb
        have hn := Nat.eq_of_beq_eq_true hb.1
        have hc := hy.cells (single_ne hb.2)
        refine skipO_ok fun s' hs' => ?_
        generalize hu : a.eval x = u at hx
        cases hx with
        | ptr off hloc =>
          obtain ⟨c, cty, g1, g2, g3⟩ := Step.store h hs' hc hloc
          refine ⟨_, E, ?_, g3⟩
          have hst := run_storeCells_at P _ _ cty (a.eval y).cells.toList 0 c w g1 (by simpa using g2) (hc.single hb.2)
          simp only [Nat.add_zero] at hst
          have hsz : (a.eval y).cells.size = n := by rw [hn, hc.length]; simp
          simp [execOp, ho, hu, Instr.storeAt, Instr.sureAddr, storeVar, sizeT_run hs, hsz, hst]
      · rw [cond_of_false hb]; trivial
    · trivial

theorem run_box (w : World) (e : TypeId) (v : Value) : (Instr.box e v).run P w = .ok (.pointer (some ⟨w.heap.size, 0, none⟩)) (w.alloc (.cells v.cells e)) := by
  simp [Instr.box, newVar, Go.newRow]

theorem boxC_ok (h : Rel E s w) (hG : GlobOk E G) (ht : TR E t a) {ty : TypeId} {x : Operand} (ho : o.op = .box ty x) : OpOk P E s w o a (boxC ty (evC G x) t s) := by
  have hx := evC_ok hG ht x
  unfold boxC
  rcases Bool.eq_false_or_eq_true ((evC G x t).cells.all AV.single) with hb | hb
  · rw [cond_of_true hb]
    have hc := hx.cells (single_ne hb)
    refine .inl ⟨_, _, _, ?_, Step.alloc h hc (a.eval x).cells ty (fun i v hi => by simpa using hi) (by rw [hc.length]; simp), VR.newPtr _ _ _ _⟩
    simp [execOp, ho, run_box]
  · rw [cond_of_false hb]; trivial

theorem allocC_ok (h : Rel E s w) {ty : TypeId} (ho : o.op = .alloc ty) : OpOk P E s w o a (allocC ty (zeroT P ty) t s) := by
  cases hz : zeroT P ty with
  | none => trivial
  | some z =>
    obtain ⟨z', h1, h2⟩ := zeroT_run hz w
    have hc := (ofV_ok E h1).cells (fun e => ofV_ne (by rw [h1, e]))
    refine .inl ⟨_, _, _, ?_, Step.alloc h hc z'.cells ty (fun i v hi => by simpa using hi) (by rw [hc.length]; simp), VR.newPtr _ _ _ _⟩
    simp [execOp, ho, Instr.alloc, h2, newVar, Go.newRow]
end
end Go.Am
