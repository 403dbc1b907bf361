/- What makes a row makes it whenever. -/
import Derived.Test.YtaiddjgpnpbckaaGreatDoorAmDep
set_option autoImplicit false
namespace Go.Am

/-- It makes a row with these cells; what it yields leads there. -/
def NewOk (P : Program) (G : Glob) (o : Oper) (t : T) (mk : Nat → AV) (ty : TypeId) (vals : List AV) : Prop :=
  ∀ (E : Env) (w : World) (a : Act), GlobOk E G → TR E t a → ∃ (vs : List Value) (c : Array Value) (x : Value), VRL E vals vs ∧ (∀ (i : Nat) (v : Value), vs[i]? = some v → c[i]? = some v) ∧
    vals.length ≤ c.size ∧ (execOp a.eval o).run P w = .ok (.value x) (w.alloc (.cells c ty)) ∧ ∀ (E' : Env) (r : Nat), E'.loc r = some (w.heap.size, 0) → E'.bsz w.heap.size = c.size → VR E' (mk r) x

theorem fillA_len : ∀ {l : List ((Nat × Nat) × AV)} {c q : List AV}, fillA c l = some q → q.length = c.length
  | [], c, q, hq => by simp [fillA] at hq; rw [hq]
  | ((of, sz), v) :: l, c, q, hq => by
    simp only [fillA] at hq
    rcases Bool.eq_false_or_eq_true (sz.beq v.cells.length && v.isDef) with hb | hb
    · rw [cond_of_true hb] at hq
      split at hq
      · rename_i c2 hc2
        rw [fillA_len hq, (overwrite_len hc2).1]
      · cases hq
    · rw [cond_of_false hb] at hq; cases hq

section
variable {P : Program} {G : Glob} {callF : CF} {o : Oper} {t : T} {s s1 : St} {v : AV}

theorem box_new {ty : TypeId} {x : Operand} (ho : o.op = .box ty x) (e : boxC ty (evC G x) t s = .val v s1) : ∃ mk ty vals, v = mk s.next ∧ s1 = pushRow s ty vals ∧ NewOk P G o t mk ty vals := by
  unfold boxC at e
  rcases Bool.eq_false_or_eq_true ((evC G x t).cells.all AV.single) with hb | hb
  · rw [cond_of_true hb] at e
    cases e
    refine ⟨fun r => .ptr r 0, ty, _, rfl, rfl, fun E w a hG ht => ?_⟩
    have hx := evC_ok hG ht x
    have hc := hx.cells (single_ne hb)
    exact ⟨_, (a.eval x).cells, _, hc, fun i v hi => by simpa using hi, by rw [hc.length]; simp, by simp [execOp, ho, run_box], fun E' r h1 _ => .ptr (base := 0) 0 h1⟩
  · rw [cond_of_false hb] at e; cases e

theorem alloc_new {ty : TypeId} (ho : o.op = .alloc ty) (e : allocC ty (zeroT P ty) t s = .val v s1) : ∃ mk ty vals, v = mk s.next ∧ s1 = pushRow s ty vals ∧ NewOk P G o t mk ty vals := by
  cases hz : zeroT P ty with
  | none => rw [hz] at e; cases e
  | some z =>
    rw [hz] at e
    cases e
    refine ⟨fun r => .ptr r 0, ty, _, rfl, rfl, fun E w a _ _ => ?_⟩
    obtain ⟨z', h1, h2⟩ := zeroT_run hz w
    have hc := (ofV_ok E h1).cells (fun e => ofV_ne (by rw [h1, e]))
    exact ⟨_, z'.cells, _, hc, fun i v hi => by simpa using hi, by rw [hc.length]; simp, by simp [execOp, ho, Instr.alloc, h2, newVar, Go.newRow], fun E' r h1 _ => .ptr (base := 0) 0 h1⟩

theorem buildSlice_new {ty : TypeId} {len : Nat} {parts : Array (Nat × Operand)} (ho : o.op = .buildSlice ty len parts) (e : buildSliceC P G ty len parts.toList t s = .val v s1) :
    ∃ mk ty vals, v = mk s.next ∧ s1 = pushRow s ty vals ∧ NewOk P G o t mk ty vals := by
  cases he : sliceElemT P ty with
  | none => simp only [buildSliceC, he] at e; cases e
  | some el =>
    have hu := sliceElemT_und he
    cases hs : sizeT P el with
    | none => simp only [buildSliceC, he, hs] at e; cases e
    | some n =>
      cases hz : zeroT P el with
      | none => simp only [buildSliceC, he, hs, hz] at e; cases e
      | some z =>
        obtain ⟨ie, z', i1, i2, i3⟩ := zeroT_info hz
        obtain ⟨ie2, e1, e2⟩ := sizeT_info hs
        rw [i1] at e1; cases e1
        simp only [buildSliceC, he, hs, hz] at e
        rcases Bool.eq_false_or_eq_true (n.beq z.cells.length && Nat.ble (len * n) 16777216 && Nat.blt 0 n) with hb | hb
        · rw [cond_of_true hb] at e
          rw [Bool.and_eq_true, Bool.and_eq_true] at hb
          have hn := Nat.eq_of_beq_eq_true hb.1.1
          have hle := Nat.le_of_ble_eq_true hb.1.2
          have hn0 : 0 < n := Nat.le_of_ble_eq_true hb.2
          split at e
          · rename_i ps hps
            split at e
            · rename_i cs hcs
              rcases Bool.eq_false_or_eq_true (cs.all AV.single) with hb2 | hb2
              · rw [cond_of_true hb2] at e
                cases e
                refine ⟨fun r => .sl r 0 len n true, el, cs, rfl, rfl, fun E w a hG ht => ?_⟩
                have hparts : (parts.map fun (i, x) => (i, a.eval x)).toList = parts.toList.map fun p => (p.1, a.eval p.2) := by simp
                have hzc : VRL E z.cells z'.cells.toList := (ofV_ok E i3).cells (fun e => ofV_ne (by rw [i3, e]))
                obtain ⟨vs, v1, v2⟩ := zeros_ok (n := len) (m := len * n) hzc (by rw [← hn]; exact Nat.le_refl _)
                have hvl := v1.length
                rw [replic_len, ← hn] at hvl
                have hvs : VRL E (replic len z.cells) ((Array.range (len * n)).map (z'.cells[· % z'.cells.size]!)).toList := by
                  have : vs = ((Array.range (len * n)).map (z'.cells[· % z'.cells.size]!)).toList := by
                    apply List.ext_getElem?
                    intro i
                    cases hvi : vs[i]? with
                    | some v => rw [Array.getElem?_toList, v2 i v hvi]
                    | none =>
                      symm
                      rw [List.getElem?_eq_none_iff]
                      rw [List.getElem?_eq_none_iff] at hvi
                      simp; omega
                  rw [← this]; exact v1
                have hpl := zipParts_ok (place := fun i => some (i * n, n)) hG ht parts.toList hps
                obtain ⟨cs', g1, g2⟩ := fill_ok hpl hvs hcs
                have hcl := g2.length
                simp only [Array.length_toList] at hcl
                have hrun : (Instr.buildSlice ty len (parts.map fun (i, x) => (i, a.eval x))).run P w = .ok (.slice (some ⟨w.heap.size, 0, none⟩) len len) (w.alloc (.cells cs' el)) := by
                  have hbig : ¬ len * ie.size > 2 ^ 24 := by rw [e2]; omega
                  subst e2
                  by_cases h0 : len * ie.size = 0
                  · have hl0 : len = 0 := by rcases Nat.mul_eq_zero.1 h0 with h1 | h1 <;> omega
                    subst hl0
                    rw [h0, show Array.range 0 = #[] from rfl, Array.map_empty] at g1
                    simp [Instr.buildSlice, run_underlying hu, sizeOf, typeInfo, i1, show Array.range 0 = #[] from rfl, g1, Go.newRow]
                  · simp [Instr.buildSlice, run_underlying hu, sizeOf, typeInfo, zeroValue, i1, i2, hbig, h0, g1, Go.newRow]
                refine ⟨_, cs', .slice (some ⟨w.heap.size, 0, none⟩) len len, g2, fun i v hi => by simpa using hi, by omega, by simp only [execOp, ho, Sem.run_bind, hrun, Result.andThen_ok]; rfl, fun E' r h1 h2 => ?_⟩
                refine .sl (base := 0) h1 (Nat.le_refl _) (fun _ => rfl) (fun _ => ⟨rfl, ?_⟩)
                rw [h2]
                have hfl : cs.length = len * n := by rw [fillA_len hcs, replic_len, ← hn]
                omega
              · rw [cond_of_false hb2] at e; cases e
            · cases e
          · cases e
        · rw [cond_of_false hb] at e; cases e

/-- An operation of the third kind. -/
theorem opC_new (hk : kdOf P o = .new) (e : opC P G callF o t s = .val v s1) : ∃ mk ty vals, v = mk s.next ∧ s1 = pushRow s ty vals ∧ NewOk P G o t mk ty vals := by
  cases ho : o.op <;> simp only [kdOf, ho] at hk <;> try (cases hk; done)
  case alloc ty => simp only [opC, ho] at e; exact alloc_new ho e
  case box ty x => simp only [opC, ho] at e; exact box_new ho e
  case buildSlice ty n ps => simp only [opC, ho] at e; exact buildSlice_new ho e
  case slice ty x lo hi mx => split at hk <;> cases hk
  case convert src dst x => split at hk <;> cases hk
  case call c =>
    obtain ⟨cal, args, ts⟩ := c
    cases cal with
    | builtin b =>
      cases b <;> try (cases hk; done)
      simp only at hk
      split at hk
      · split at hk <;> cases hk
      · cases hk
    | _ => cases hk
end
end Go.Am
