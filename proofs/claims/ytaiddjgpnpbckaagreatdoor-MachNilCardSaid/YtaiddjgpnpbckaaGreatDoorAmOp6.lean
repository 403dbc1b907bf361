/- The operations, on both sides: composites. -/
import Derived.Test.YtaiddjgpnpbckaaGreatDoorAmOp5
import Derived.Laws.Tables
import Derived.Laws.MakeOwn
set_option autoImplicit false
namespace Go.Am

section
variable {P : Program} {G : Glob} {E : Env} {s : St} {w : World} {t : T} {a : Act} {o : Oper}

theorem foldl_set (off : Nat) : ∀ (us : List Value) (k : Nat) (cs : Array Value),
    ((us.zipIdx k).foldl (fun (cs : Array Value) (p : Value × Nat) => cs.setIfInBounds (off + p.2) p.1) cs).size = cs.size ∧
    ∀ i, ((us.zipIdx k).foldl (fun (cs : Array Value) (p : Value × Nat) => cs.setIfInBounds (off + p.2) p.1) cs)[i]? =
      if off + k ≤ i ∧ i < off + k + us.length ∧ i < cs.size then us[i - (off + k)]? else cs[i]?
  | [], k, cs => ⟨rfl, fun i => by rw [if_neg (by intro hh; simp at hh; omega)]; rfl⟩
  | u :: us, k, cs => by
    obtain ⟨h1, h2⟩ := foldl_set off us (k + 1) (cs.setIfInBounds (off + k) u)
    simp only [List.zipIdx_cons, List.foldl_cons]
    refine ⟨h1.trans (by simp), fun i => ?_⟩
    rw [h2 i]
    simp only [Array.size_setIfInBounds, List.length_cons]
    by_cases c1 : off + (k + 1) ≤ i ∧ i < off + (k + 1) + us.length ∧ i < cs.size
    · rw [if_pos c1, if_pos (by omega)]
      rw [show i - (off + k) = (i - (off + (k + 1))) + 1 by omega, List.getElem?_cons_succ]
    · rw [if_neg c1]
      by_cases c2 : off + k = i
      · by_cases c3 : i < cs.size
        · rw [if_pos (by omega)]
          subst c2
          rw [Array.getElem?_setIfInBounds_self]
          simp [c3]
        · rw [if_neg (by omega)]
          rw [Array.setIfInBounds_eq_of_size_le (by omega)]
      · rw [if_neg (by omega), Array.getElem?_setIfInBounds_ne c2]

theorem isDef_ne {x : AV} (h : x.isDef = true) : x ≠ .undef := by rintro rfl; simp [AV.isDef] at h

/-- The parts of a literal, on both sides. -/
inductive PartsR (E : Env) (place : Nat → Option (Nat × Nat)) : List ((Nat × Nat) × AV) → List (Nat × Value) → Prop
  | nil : PartsR E place [] []
  | cons {i : Nat} {p : Nat × Nat} {x : AV} {v : Value} {l : List ((Nat × Nat) × AV)} {r : List (Nat × Value)} (hp : place i = some p) (hx : VR E x v) (hl : PartsR E place l r) :
      PartsR E place ((p, x) :: l) ((i, v) :: r)

theorem fill_ok {place : Nat → Option (Nat × Nat)} : ∀ {l : List ((Nat × Nat) × AV)} {r : List (Nat × Value)}, PartsR E place l r → ∀ {cells q : List AV} {cs : Array Value}, VRL E cells cs.toList →
    fillA cells l = some q → ∃ cs', Instr.fill place cs r = some cs' ∧ VRL E q cs'.toList
  | _, _, .nil, cells, q, cs, hc, h => by simp [fillA] at h; subst h; exact ⟨cs, rfl, hc⟩
  | _, _, .cons (p := (off, size)) (x := x) (v := v) hp hx hl, cells, q, cs, hc, h => by
    simp only [fillA] at h
    rcases Bool.eq_false_or_eq_true (size.beq x.cells.length && x.isDef) with hb | hb
    · rw [cond_of_true hb] at h
      rw [Bool.and_eq_true] at hb
      have hsz := Nat.eq_of_beq_eq_true hb.1
      have hxc := hx.cells (isDef_ne hb.2)
      split at h
      · rename_i cs2 ho
        obtain ⟨l1, l2⟩ := overwrite_len ho
        have hxl := hxc.length
        have hcl := hc.length
        simp only [Array.length_toList] at hxl hcl
        obtain ⟨f1, f2⟩ := foldl_set off v.cells.toList 0 cs
        have e0 : (v.cells.zipIdx.foldl (fun cs (c, j) => cs.setIfInBounds (off + j) c) cs) = ((v.cells.toList.zipIdx 0).foldl (fun (cs : Array Value) (p : Value × Nat) => cs.setIfInBounds (off + p.2) p.1) cs) := by
          rw [← Array.foldl_toList, Array.toList_zipIdx]
        have hnew : VRL E cs2 ((v.cells.toList.zipIdx 0).foldl (fun (cs : Array Value) (p : Value × Nat) => cs.setIfInBounds (off + p.2) p.1) cs).toList := by
          refine VRL.of_get (by rw [l1, hcl, Array.length_toList]; exact f1.symm) (fun i y u hy hu => ?_)
          rw [Array.getElem?_toList, f2 i] at hu
          have hg := overwrite_get ho i
          rw [hy] at hg
          simp only [Array.length_toList, Nat.add_zero] at hu
          by_cases c1 : off ≤ i ∧ i < off + x.cells.length
          · rw [if_pos c1] at hg
            rw [if_pos (by omega)] at hu
            obtain ⟨u', hu', hr⟩ := hxc.at_ hg.symm
            rw [hu'] at hu; cases hu; exact hr
          · rw [if_neg c1] at hg
            rw [if_neg (by omega)] at hu
            obtain ⟨u', hu', hr⟩ := hc.at_ hg.symm
            rw [Array.getElem?_toList, hu] at hu'; cases hu'; exact hr
        obtain ⟨cs', g1, g2⟩ := fill_ok hl hnew h
        refine ⟨cs', ?_, g2⟩
        simp only [Instr.fill, hp]
        rw [if_neg (by simp; omega), e0]
        exact g1
      · cases h
    · rw [cond_of_false hb] at h; cases h

theorem zipParts_ok (hG : GlobOk E G) (ht : TR E t a) {place : Nat → Option (Nat × Nat)} : ∀ (parts : List (Nat × Operand)) {l : List ((Nat × Nat) × AV)},
    zipParts (parts.map fun p => place p.1) (parts.map fun p => evC G p.2) t = some l → PartsR E place l (parts.map fun p => (p.1, a.eval p.2))
  | [], l, h => by simp [zipParts] at h; subst h; exact .nil
  | (i, x) :: parts, l, h => by
    simp only [List.map_cons] at h ⊢
    cases hp : place i with
    | none => rw [hp] at h; simp [zipParts] at h
    | some p =>
      rw [hp] at h
      simp only [zipParts] at h
      split at h
      · rename_i q hq
        cases h
        exact .cons hp (evC_ok hG ht x) (zipParts_ok hG ht parts hq)
      · cases h

theorem buildC_ok (h : Rel E s w) (hG : GlobOk E G) (ht : TR E t a) {ty : TypeId} {parts : Array (Nat × Operand)} (ho : o.op = .build ty parts) : OpOk P E s w o a (buildC P G ty parts.toList t s) := by
  have hparts : (parts.map fun (i, x) => (i, a.eval x)).toList = parts.toList.map fun p => (p.1, a.eval p.2) := by simp
  cases hz : zeroT P ty with
  | none => simp only [buildC, hz]; trivial
  | some z0 =>
    cases z0 with
    | agg z =>
      obtain ⟨it, z', i1, i2, i3⟩ := zeroT_info hz
      have hzc : VRL E z z'.cells.toList := (ofV_ok E i3).cells (by simp)
      cases hu : P.underlying ty with
      | none => simp only [buildC, hz, hu]; trivial
      | some d =>
        cases d with
        | struct fields =>
          cases hp : placesT P fields with
          | none => simp only [buildC, hz, hu, hp]; trivial
          | some places =>
            simp only [buildC, hz, hu, hp]
            split
            · rename_i ps hps
              refine aggO_ok h fun y hy => ?_
              have hpl := zipParts_ok (place := fun i => places[i]?) hG ht parts.toList hps
              obtain ⟨cs', g1, g2⟩ := fill_ok hpl hzc hy
              refine ⟨.agg cs', ?_, .agg g2⟩
              have hrun : (Instr.build ty (parts.map fun (i, x) => (i, a.eval x))).run P w = .ok (.agg cs') w := by
                refine run_build w ty _ cs' ?_
                rw [hparts]
                unfold placesT at hp
                simp only [Program.built, i1, hu, i2, hp]
                rw [← g1]
                congr 1
                funext i
                simp
              simp [execOp, ho, hrun]
            · trivial
        | array len e =>
          cases hs : sizeT P e with
          | none => simp only [buildC, hz, hu, hs]; trivial
          | some n =>
            simp only [buildC, hz, hu, hs]
            split
            · rename_i ps hps
              refine aggO_ok h fun y hy => ?_
              have hpl := zipParts_ok (place := fun i => some (i * n, n)) hG ht parts.toList hps
              obtain ⟨cs', g1, g2⟩ := fill_ok hpl hzc hy
              refine ⟨.agg cs', ?_, .agg g2⟩
              obtain ⟨ie, e1, e2⟩ := sizeT_info hs
              have hrun : (Instr.build ty (parts.map fun (i, x) => (i, a.eval x))).run P w = .ok (.agg cs') w := by
                refine run_build w ty _ cs' ?_
                rw [hparts]
                simp [Program.built, i1, i2, hu, e1, e2, g1]
              simp [execOp, ho, hrun]
            · trivial
        | _ => simp only [buildC, hz, hu]; trivial
    | _ => simp only [buildC, hz]; trivial

theorem replic_len (z : List AV) : ∀ n, (replic n z).length = n * z.length
  | 0 => by simp [replic]
  | n + 1 => by simp only [replic, List.length_append, replic_len z n, Nat.add_mul]; omega

theorem replic_get (z : List AV) : ∀ (n i : Nat), i < n * z.length → (replic n z)[i]? = z[i % z.length]?
  | 0, i, h => by simp at h
  | n + 1, i, h => by
    simp only [replic, List.getElem?_append]
    have hz : 0 < z.length := by
      rcases Nat.eq_zero_or_pos z.length with h0 | h0
      · rw [h0] at h; simp at h
      · exact h0
    split
    · rename_i h1; rw [Nat.mod_eq_of_lt h1]
    · rename_i h1
      rw [replic_get z n (i - z.length) (by rw [Nat.add_mul] at h; omega)]
      congr 1
      conv => rhs; rw [show i = (i - z.length) + z.length by omega]
      rw [Nat.add_mod_right]

/-- Cells that are the zero value's, again and again. -/
theorem zeros_ok {z : List AV} {zs : Array Value} (hz : VRL E z zs.toList) {n m : Nat} (hm : n * z.length ≤ m) :
    ∃ vs, VRL E (replic n z) vs ∧ ∀ (i : Nat) (v : Value), vs[i]? = some v → ((Array.range m).map (zs[· % zs.size]!))[i]? = some v := by
  have hl := hz.length
  simp only [Array.length_toList] at hl
  refine ⟨((Array.range m).map (zs[· % zs.size]!)).toList.take (n * z.length), ?_, fun i v hv => ?_⟩
  · refine VRL.of_get ?_ (fun i x v hx hv => ?_)
    · rw [replic_len]; simp; omega
    · rw [List.getElem?_take] at hv
      split at hv
      · rename_i hi
        rw [replic_get z n i hi] at hx
        obtain ⟨u, hu, hr⟩ := hz.at_ hx
        have hz0 : 0 < zs.size := by
          rcases Nat.eq_zero_or_pos zs.size with h0 | h0
          · rw [hl, h0] at hi; simp at hi
          · exact h0
        have hmod : i % zs.size < zs.size := Nat.mod_lt _ hz0
        rw [Array.getElem?_toList, Array.getElem?_map, Array.getElem?_range] at hv
        rw [if_pos (by omega)] at hv
        simp only [Option.map_some, Option.some.injEq] at hv
        rw [getElem!_pos zs _ hmod] at hv
        rw [hl, Array.getElem?_toList, Array.getElem?_eq_getElem hmod] at hu
        cases hu
        rw [← hv]; exact hr
      · cases hv
  · rw [List.getElem?_take] at hv
    split at hv
    · rwa [Array.getElem?_toList] at hv
    · cases hv

theorem buildSliceC_ok (h : Rel E s w) (hG : GlobOk E G) (ht : TR E t a) {ty : TypeId} {len : Nat} {parts : Array (Nat × Operand)} (ho : o.op = .buildSlice ty len parts) :
    OpOk P E s w o a (buildSliceC P G ty len parts.toList t s) := by
  have hparts : (parts.map fun (i, x) => (i, a.eval x)).toList = parts.toList.map fun p => (p.1, a.eval p.2) := by simp
  cases he : sliceElemT P ty with
  | none => simp only [buildSliceC, he]; trivial
  | some e =>
    have hu := sliceElemT_und he
    cases hs : sizeT P e with
    | none => simp only [buildSliceC, he, hs]; trivial
    | some n =>
      cases hz : zeroT P e with
      | none => simp only [buildSliceC, he, hs, hz]; trivial
      | some z =>
        obtain ⟨ie, z', i1, i2, i3⟩ := zeroT_info hz
        obtain ⟨ie2, e1, e2⟩ := sizeT_info hs
        rw [i1] at e1; cases e1
        have hzc : VRL E z.cells z'.cells.toList := (ofV_ok E i3).cells (fun e => ofV_ne (by rw [i3, e]))
        simp only [buildSliceC, he, hs, hz]
        rcases Bool.eq_false_or_eq_true (n.beq z.cells.length && Nat.ble (len * n) 16777216 && Nat.blt 0 n) with hb | hb
        · rw [cond_of_true hb]
          rw [Bool.and_eq_true, Bool.and_eq_true] at hb
          have hn := Nat.eq_of_beq_eq_true hb.1.1
          have hle := Nat.le_of_ble_eq_true hb.1.2
          have hn0 : 0 < n := Nat.le_of_ble_eq_true hb.2
          split
          · rename_i ps hps
            split
            · rename_i cs hcs
              rcases Bool.eq_false_or_eq_true (cs.all AV.single) with hb2 | hb2
              · rw [cond_of_true hb2]
                obtain ⟨vs, v1, v2⟩ := zeros_ok (n := len) (m := len * n) hzc (by rw [← hn]; exact Nat.le_refl _)
                have hvl := v1.length
                rw [replic_len, ← hn] at hvl
                have hvs : VRL E (replic len z.cells) ((Array.range (len * n)).map (z'.cells[· % z'.cells.size]!)).toList := by
                  have : vs = ((Array.range (len * n)).map (z'.cells[· % z'.cells.size]!)).toList := by
                    apply List.ext_getElem?
                    intro i
                    cases hvi : vs[i]? with
                    | some v => rw [Array.getElem?_toList, v2 i v hvi]
                    | none =>
                      symm
                      rw [List.getElem?_eq_none_iff]
                      rw [List.getElem?_eq_none_iff] at hvi
                      simp; omega
                  rw [← this]; exact v1
                have hpl := zipParts_ok (place := fun i => some (i * n, n)) hG ht parts.toList hps
                obtain ⟨cs', g1, g2⟩ := fill_ok hpl hvs hcs
                have hcl := g2.length
                simp only [Array.length_toList] at hcl
                have hrun : (Instr.buildSlice ty len (parts.map fun (i, x) => (i, a.eval x))).run P w = .ok (.slice (some ⟨w.heap.size, 0, none⟩) len len) (w.alloc (.cells cs' e)) := by
                  have hbig : ¬ len * ie.size > 2 ^ 24 := by rw [e2]; omega
                  subst e2
                  by_cases h0 : len * ie.size = 0
                  · have hl0 : len = 0 := by rcases Nat.mul_eq_zero.1 h0 with h1 | h1 <;> omega
                    subst hl0
                    rw [h0, show Array.range 0 = #[] from rfl, Array.map_empty] at g1
                    simp [Instr.buildSlice, run_underlying hu, sizeOf, typeInfo, i1, show Array.range 0 = #[] from rfl, g1, Go.newRow]
                  · simp [Instr.buildSlice, run_underlying hu, sizeOf, typeInfo, zeroValue, i1, i2, hbig, h0, g1, Go.newRow]
                refine .inl ⟨_, _, _, by simp only [execOp, ho, Sem.run_bind, hrun, Result.andThen_ok]; rfl, Step.alloc h g2 cs' e (fun i v hi => by simpa using hi) (by omega), ?_⟩
                refine .sl (base := 0) (Env.add_self _ _ _ _ _) (Nat.le_refl _) (fun _ => rfl) (fun _ => ⟨rfl, ?_⟩)
                simp only [Env.add, if_true]
                have hfl : cs.length = len * n := by
                  have : ∀ {l : List ((Nat × Nat) × AV)} {c q : List AV}, fillA c l = some q → q.length = c.length := by
                    intro l
                    induction l with
                    | nil => intro c q hq; simp [fillA] at hq; rw [hq]
                    | cons p l ih =>
                      obtain ⟨⟨of, sz⟩, v⟩ := p
                      intro c q hq
                      simp only [fillA] at hq
                      rcases Bool.eq_false_or_eq_true (sz.beq v.cells.length && v.isDef) with hb | hb
                      · rw [cond_of_true hb] at hq
                        split at hq
                        · rename_i c2 hc2
                          rw [ih hq, (overwrite_len hc2).1]
                        · cases hq
                      · rw [cond_of_false hb] at hq; cases hq
                  rw [this hcs, replic_len, ← hn]
                omega
              · rw [cond_of_false hb2]; trivial
            · trivial
          · trivial
        · rw [cond_of_false hb]; trivial

theorem makeSliceC_ok (h : Rel E s w) (hG : GlobOk E G) (ht : TR E t a) {ty : TypeId} {l c : Operand} (ho : o.op = .makeSlice ty l c) : OpOk P E s w o a (makeSliceC P ty (evC G l) (evC G c) t s) := by
  have hl := evC_ok hG ht l
  have hc := evC_ok hG ht c
  cases he : sliceElemT P ty with
  | none => simp only [makeSliceC, he]; trivial
  | some e =>
    have hu := sliceElemT_und he
    cases hz : zeroT P e with
    | none => simp only [makeSliceC, he, hz]; trivial
    | some z =>
      cases hs : sizeT P e with
      | none => simp only [makeSliceC, he, hs, hz]; trivial
      | some n =>
        cases hb : bytesT P e with
        | none => simp only [makeSliceC, he, hs, hz, hb]; trivial
        | some b =>
          obtain ⟨ie, z', i1, i2, i3⟩ := zeroT_info hz
          obtain ⟨ie2, e1, e2⟩ := sizeT_info hs
          rw [i1] at e1; cases e1
          obtain ⟨ie3, e3, e4⟩ := bytesT_info hb
          rw [i1] at e3; cases e3
          have hzc : VRL E z.cells z'.cells.toList := (ofV_ok E i3).cells (fun e => ofV_ne (by rw [i3, e]))
          simp only [makeSliceC, he, hs, hz, hb]
          rcases Bool.eq_false_or_eq_true (n.beq z.cells.length && Nat.ble b 65536) with hq | hq
          · rw [cond_of_true hq]
            rw [Bool.and_eq_true] at hq
            have hn := Nat.eq_of_beq_eq_true hq.1
            have hbb := Nat.le_of_ble_eq_true hq.2
            split
            · rename_i l0 c0 h1 h2
              obtain ⟨kl, hl'⟩ := natOf_ok h1 hl
              obtain ⟨kc, hc'⟩ := natOf_ok h2 hc
              rcases Bool.eq_false_or_eq_true (Nat.ble l0 c0 && Nat.ble c0 1073741824) with hq2 | hq2
              · rw [cond_of_true hq2]
                rw [Bool.and_eq_true] at hq2
                have hle := Nat.le_of_ble_eq_true hq2.1
                have hcc := Nat.le_of_ble_eq_true hq2.2
                have hmul : b * c0 ≤ 65536 * 1073741824 := Nat.mul_le_mul hbb hcc
                have h9 : (ie.bytes : Int) * (c0 : Int) ≤ 281474976710656 := by
                  have h8 : ((b * c0 : Nat) : Int) ≤ 281474976710656 := by omega
                  rw [e4, ← Int.natCast_mul]; exact h8
                have hrun := run_make (P := P) w ty e ie z' hu i1 i2 kl kc l0 c0 (by omega) (by omega) h9 (by omega)
                simp only [Int.toNat_natCast] at hrun
                have hm : l0 * z.cells.length ≤ c0 * ie.size := by rw [e2, hn]; exact Nat.mul_le_mul_right _ hle
                obtain ⟨vs, v1, v2⟩ := zeros_ok (n := l0) (m := c0 * ie.size) hzc hm
                have hsz : (madeCells z'.cells (c0 * ie.size)).size = c0 * ie.size := size_madeCells _ _
                refine .inl ⟨_, _, _, by simp only [execOp, ho, hl', hc', Sem.run_bind, hrun, Result.andThen_ok]; rfl, Step.alloc h v1 (madeCells z'.cells (c0 * ie.size)) e v2 (by rw [replic_len, hsz]; exact hm), ?_⟩
                refine .sl (base := 0) (Env.add_self _ _ _ _ _) hle (fun e => (Nat.eq_of_beq_eq_true e).symm) (fun _ => ⟨rfl, ?_⟩)
                simp only [Env.add, if_true, size_madeCells, e2]; omega
              · rw [cond_of_false hq2]; trivial
            · trivial
          · rw [cond_of_false hq]; trivial
end
end Go.Am
