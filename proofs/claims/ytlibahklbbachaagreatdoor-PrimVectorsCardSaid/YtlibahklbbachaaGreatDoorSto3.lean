/- The store: a slot is set. The tree, and how it lies. -/
import Derived.Test.YtlibahklbbachaaGreatDoorSto2
section
set_option autoImplicit false
set_option maxRecDepth 100000
namespace Go.Am.Sto
open Go Go.Am Go.Proofs

/-- with what a slice of an object leads to -/
def G1 : Glob := { at_ := fun _ => none, H := H0, orc := some (1, 2) }
def runSet (P : Program) (L U : Int) (n i j : Nat) (t N : Int) (V C : List AV) : Option (AV × RowI × RowI × RowI × RowI) :=
  bodyY P G1 XS YS 5 8 noLive (mkR 1 2 2) 5 P.funcs[81]? [.ptr 0 0, .agg [.int .i64 7, .int .i64 (.ofNat i)], .int .i64 (.ofNat j), .agg [.int .i64 t, .int .i64 N]] (St.rows [(66, sto1 L U 1 n), (115, V), (29, C)])
def setR (L U : Int) (n : Nat) (V C : List AV) (e : Int) : Option (AV × RowI × RowI × RowI × RowI) := some (.int .i64 e, some (sto1 L U 1 n, 66, true), some (V, 115, true), some (C, 29, true), some (C, 29, true))
theorem tSet (L U : Int) (n i j : Nat) (t N k : Int) (V C : List AV) : runSet Tryz.prog L U (n + 1) i j t N (.int .i64 k :: V) C =
    byB (leI (.ofNat (n + 1)) (.ofNat i)) (setR L U (n + 1) (.int .i64 k :: V) C 10) (ifK (Nat.blt i (n + 1) && Nat.beq 10 10) (optS 2 (fun _ m _ _ => byB (leI (.ofNat m) (.ofNat j)) (setR L U (n + 1) (.int .i64 k :: V) C 12)
      (optS 2 (fun o m es _ => ifK (Nat.blt j m && Nat.beq 2 es) (byB (sndB (n + 1) t N) (optK (fun vals => setR L U (n + 1) (.int .i64 k :: V) vals 0) (overwrite C (o + j * 2) [.int .i64 t, .int .i64 N])) (setR L U (n + 1) (.int .i64 k :: V) C 2)))
        ((AV.int .i64 k :: V)[0 + i * 10 + 1]?))) ((AV.int .i64 k :: V)[0 + i * 10 + 1]?))) := by kernel_rfl

theorem kG1 {X : Known} (h : KnownOk Tryz.prog G0 X) : KnownOk Tryz.prog G1 X := fun f g hf ar s E w vs h1 h2 h3 => h f g hf ar s E w vs h1 ⟨h2.1, h2.2⟩ h3

/-- objects, of which one leads to row 2 -/
def objsQ : List (Ob × Value) → Nat → Nat → List AV
  | [], _, _ => []
  | p :: r, 0, m => .int .i64 p.1.1 :: .sl 2 0 m 2 false :: .undef :: .undef :: .undef :: .undef :: .undef :: .undef :: .undef :: .undef :: objsP r
  | p :: r, i + 1, m => .int .i64 p.1.1 :: .lit p.2 :: .undef :: .undef :: .undef :: .undef :: .undef :: .undef :: .undef :: .undef :: objsQ r i m
theorem objsQ_VRL {E : Env} {m : Nat} : ∀ {rs : List (Ob × Value)} {i : Nat} {ovs : List Value} {p : Ob × Value}, VRL E (objsP rs) ovs → rs[i]? = some p → VR E (.sl 2 0 m 2 false) p.2 → VRL E (objsQ rs i m) ovs
  | [], _, _, _, _, h, _ => by simp at h
  | q :: r, 0, ovs, p, h, hp, hv => by
    simp at hp; subst hp
    cases h with
    | cons h1 h => cases h with
      | cons h2 h =>
        cases h2
        exact .cons h1 (.cons hv h)
  | q :: r, i + 1, ovs, p, h, hp, hv => by
    cases h with
    | cons h1 h => cases h with
      | cons h2 h => cases h with
        | cons h3 h => cases h with
          | cons h4 h => cases h with
            | cons h5 h => cases h with
              | cons h6 h => cases h with
                | cons h7 h => cases h with
                  | cons h8 h => cases h with
                    | cons h9 h => cases h with
                      | cons h10 h => exact .cons h1 (.cons h2 (.cons h3 (.cons h4 (.cons h5 (.cons h6 (.cons h7 (.cons h8 (.cons h9 (.cons h10 (objsQ_VRL h (by simpa using hp) hv))))))))))
theorem objsQ_len : ∀ (rs : List (Ob × Value)) (i m : Nat), (objsQ rs i m).length = 10 * rs.length
  | [], _, _ => rfl
  | _ :: rs, 0, m => by simp only [objsQ, List.length_cons, objsP_len]; omega
  | _ :: rs, i + 1, m => by simp only [objsQ, List.length_cons, objsQ_len rs i m]; omega
theorem objsQ_0 : ∀ (rs : List (Ob × Value)) (i m k : Nat) (p : Ob × Value), rs[k]? = some p → (objsQ rs i m)[10 * k]? = some (.int .i64 p.1.1) ∧ (objsQ rs i m)[10 * k + 1]? = some (if k = i then .sl 2 0 m 2 false else .lit p.2)
  | [], _, _, _, _, h => by simp at h
  | q :: rs, 0, m, 0, p, h => by simp at h; subst h; exact ⟨rfl, rfl⟩
  | q :: rs, i + 1, m, 0, p, h => by simp at h; subst h; exact ⟨rfl, rfl⟩
  | q :: rs, 0, m, k + 1, p, h => by
    rw [show 10 * (k + 1) = 10 * k + 10 by omega, show 10 * k + 10 + 1 = 10 * k + 1 + 10 by omega]
    simp only [objsQ, List.getElem?_cons_succ]
    exact objsP_0 rs k p (by simpa using h)
  | q :: rs, i + 1, m, k + 1, p, h => by
    rw [show 10 * (k + 1) = 10 * k + 10 by omega, show 10 * k + 10 + 1 = 10 * k + 1 + 10 by omega]
    simp only [objsQ, List.getElem?_cons_succ]
    have := objsQ_0 rs i m k p (by simpa using h)
    simpa using this

/-- with something else in a slot -/
def setO (o : Ob) (j : Nat) (x : V2) : Ob := (o.1, o.2.set j x)
def setOf (d : Hid) (i j : Nat) (x : V2) : Hid := match d.rows[i]? with
  | some o => ⟨d.kind, d.nums, d.rows.set i (setO o j x), d.names⟩
  | none => d
def setOk (d : Hid) (i j : Nat) (x : V2) : Bool := match d.rows[i]? with
  | some o => Nat.blt j o.2.length && sndB d.rows.length x.1 x.2
  | none => false
def F81 (d : Hid) : List AV → Option (Bool × AV × Hid)
  | [.hptr 0, .agg [.int .i64 7, .int .i64 (.ofNat i)], .int .i64 (.ofNat j), .agg [.int .i64 t, .int .i64 N]] => some (setOk d i j (t, N), .int .i64 0, setOf d i j (t, N))
  | _ => none

theorem overwrite_cells (x : V2) : ∀ (l : List V2) (j : Nat), j < l.length → overwrite (cellsA l) (0 + j * 2) [.int .i64 x.1, .int .i64 x.2] = some (cellsA (l.set j x))
  | [], _, h => by simp at h
  | p :: l, 0, _ => by
    show overwrite (.int .i64 p.1 :: .int .i64 p.2 :: cellsA l) 0 _ = _
    cases l <;> rfl
  | p :: l, j + 1, h => by
    have := overwrite_cells x l j (by simpa using h)
    rw [Nat.zero_add] at this ⊢
    rw [show (j + 1) * 2 = j * 2 + 1 + 1 by omega]
    simp only [cellsA, overwrite, this, List.set_cons_succ]
end Go.Am.Sto
end
section
set_option autoImplicit false
set_option maxRecDepth 100000
namespace Go.Am.Sto
open Go Go.Am Go.Proofs

/-- how it is laid out for a slot that is set -/
def SeesS (ar : List AV) (d : Hid) (b : Nat) (own : Nat → Prop) (w : World) (l : List Lay) : Prop :=
  ∃ (L U : Int) (i j : Nat) (x : V2) (o : Ob) (bo base bs : Nat) (rs : List (Ob × Value)) (sb : Nat → Nat), ar = [.hptr 0, .agg [.int .i64 7, .int .i64 (.ofNat i)], .int .i64 (.ofNat j), .agg [.int .i64 x.1, .int .i64 x.2]] ∧
    d.kind = 0 ∧ d.nums = [L, U] ∧ d.names = [] ∧ Fit L U d.rows.length ∧ own b ∧ rs.map (·.1) = d.rows ∧ d.rows[i]? = some o ∧ j < o.2.length ∧ own bo ∧ bo ≠ b ∧ Slots own w rs sb b bo ∧
    l = [⟨b, 0, 66, sto1 L U 1 rs.length⟩, ⟨bo, base, 115, objsQ rs i o.2.length⟩, ⟨sb i, bs, 29, cellsA o.2⟩]

theorem sees81 (ar : List AV) (d : Hid) (b : Nat) (own : Nat → Prop) (w : World) (y : AV) (d' : Hid) (hF : F81 d ar = some (true, y, d')) (h : G1.H d b own w) :
    ∃ l z, SeesS ar d b own w l ∧ (∃ p, l[0]? = some p ∧ p.b = b ∧ p.base = 0) ∧ (∀ p ∈ l, own p.b) ∧ (∀ p ∈ l, LayOk (Env.lay l z w G1.H) w p) ∧
    (∀ (i j : Nat) (p q : Lay), l[i]? = some p → l[j]? = some q → p.b = q.b → i = j) ∧ (∀ c o v, z c o = some v → w.cell? ⟨c, o, none⟩ = some v ∧ own c ∧ ∀ p ∈ l, p.b ≠ c) := by
  unfold F81 at hF
  split at hF
  case h_2 => cases hF
  rename_i i j t N
  simp only [Option.some.injEq, Prod.mk.injEq] at hF
  obtain ⟨hok, _, _⟩ := hF
  unfold setOk at hok
  cases ho : d.rows[i]? with
  | none => rw [ho] at hok; cases hok
  | some o =>
  rw [ho] at hok
  obtain ⟨hj, hsnd⟩ := Bool.and_eq_true_iff.1 hok
  have hj : j < o.2.length := by simpa using hj
  have hne : o.2 ≠ [] := by intro e; rw [e] at hj; simp at hj
  obtain ⟨L, U, ov, mv, h1, h2, h3, hf, h4, ⟨c, g1, g2, g3⟩, h6⟩ := h
  rcases h6 with ⟨h7, _⟩ | ⟨bo, ovs, sb, h7, ⟨base, cap, rfl, k1, k2, c2, k3, k4, k5⟩, h9, hob⟩
  · rw [h7] at ho; simp at ho
  obtain ⟨rs, m1, m2, m3⟩ : ∃ rs : List (Ob × Value), rs.map (·.1) = d.rows ∧ (∀ E : Env, VRL E (objsP rs) ovs) ∧ ∀ i p, rs[i]? = some p → ovs[10 * i + 1]? = some p.2 := by
    have key := fun E => objsP_VRL (E := E) d.rows ovs hob.len hob.kind fun i o hi => by
      obtain ⟨sv, q1, q2⟩ := hob.slots i o hi
      exact ⟨sv, q1, slots_slice q2⟩
    obtain ⟨rs, m1, _, m3⟩ := key Env.none
    refine ⟨rs, m1, fun E => ?_, m3⟩
    obtain ⟨rs', n1, n2, n3⟩ := key E
    have : rs' = rs := by
      apply List.ext_getElem?
      intro i
      have e1 : (rs'[i]?).map (·.1) = (rs[i]?).map (·.1) := by rw [← List.getElem?_map, ← List.getElem?_map, m1, n1]
      cases hr : rs[i]? with
      | none => rw [hr] at e1; cases hr' : rs'[i]? with | none => rfl | some p => rw [hr'] at e1; cases e1
      | some p =>
        rw [hr] at e1
        cases hr' : rs'[i]? with
        | none => rw [hr'] at e1; cases e1
        | some p' =>
          rw [hr'] at e1
          have e2 := (m3 i p hr).symm.trans (n3 i p' hr')
          simp only [Option.map_some, Option.some.injEq] at e1 e2
          rw [Prod.ext e1.symm e2]
    rw [← this]; exact n2
  have hlen : rs.length = d.rows.length := by rw [← m1, List.length_map]
  have hS : Slots own w rs sb b bo := ⟨fun i p hp => by
      have hr : d.rows[i]? = some p.1 := by rw [← m1, List.getElem?_map, hp]; rfl
      obtain ⟨sv, q1, q2⟩ := hob.slots i p.1 hr
      have := m3 i p hp
      rw [q1] at this
      cases this
      exact q2, fun i p hp => hob.far i p.1 (by rw [← m1, List.getElem?_map, hp]; rfl),
    fun i j p q hp hq => hob.apart i j p.1 q.1 (by rw [← m1, List.getElem?_map, hp]; rfl) (by rw [← m1, List.getElem?_map, hq]; rfl)⟩
  obtain ⟨p, hp, hpo⟩ : ∃ p, rs[i]? = some p ∧ p.1 = o := by
    rw [← m1, List.getElem?_map] at ho
    cases hr : rs[i]? with
    | none => rw [hr] at ho; cases ho
    | some p => rw [hr] at ho; exact ⟨p, rfl, by simpa using ho⟩
  subst hpo
  obtain ⟨f1, f2⟩ := hS.far i p hp hne
  rcases hS.is i p hp with ⟨e, _⟩ | ⟨_, bs, cap2, e1, e2, e3, c3, e4, e5, e6⟩
  · exact absurd e hne
  refine ⟨[⟨b, 0, 66, sto1 L U 1 rs.length⟩, ⟨bo, base, 115, objsQ rs i p.1.2.length⟩, ⟨sb i, bs, 29, cellsA p.1.2⟩], noZ, ⟨L, U, i, j, (t, N), p.1, bo, base, bs, rs, sb, rfl, h1, h2, h3, hf, h4, m1, ho, hj, k2, h9, hS, rfl⟩, ⟨_, rfl, rfl, rfl⟩, fun q hq => ?_, fun q hq => ?_, fun i1 j1 q r hi hj2 e => ?_, fun c o v e => by cases e⟩
  · simp at hq
    rcases hq with rfl | rfl | rfl
    · exact h4
    · exact k2
    · exact e3
  · simp at hq
    rcases hq with rfl | rfl | rfl
    · refine ⟨c, g1, g2, _, .cons (.int _ _) (.cons (.int _ _) (.cons (.sl (b := bo) (base := base) rfl (by rw [hlen]; exact k1) (fun e => by cases e) fun _ => ⟨rfl, ?_⟩) (.cons (.lst .nil (Nat.le_refl _) (fun _ => rfl) rfl (fun _ => rfl) (fun e => absurd rfl e)) (.cons (.undef _) .nil)))), by rw [hlen]; exact g3⟩
      show base + 0 + cap * 10 ≤ (match w.heap[bo]? with | some (.cells c _ _) => c.size | _ => 0)
      rw [k3]; exact k4
    · refine ⟨c2, k3, ?_, ovs, objsQ_VRL (m2 _) hp ?_, k5⟩
      · show base + (objsQ rs i p.1.2.length).length ≤ c2.size
        rw [objsQ_len, hlen]
        have := Nat.mul_le_mul_right 10 k1
        omega
      · rw [e1]
        refine .sl (b := sb i) (base := bs) rfl e2 (fun e => by cases e) fun _ => ⟨rfl, ?_⟩
        show bs + 0 + cap2 * 2 ≤ (match w.heap[sb i]? with | some (.cells c _ _) => c.size | _ => 0)
        rw [e4]; exact e5
    · refine ⟨c3, e4, ?_, cellsV p.1.2, cells_VRL _, e6⟩
      show bs + (cellsA p.1.2).length ≤ c3.size
      rw [cellsA_len]
      omega
  · match i1, j1, hi, hj2 with
    | 0, 0, _, _ => rfl
    | 1, 1, _, _ => rfl
    | 2, 2, _, _ => rfl
    | 0, 1, hi, hj2 => simp at hi hj2; subst hi hj2; exact absurd e.symm h9
    | 1, 0, hi, hj2 => simp at hi hj2; subst hi hj2; exact absurd e h9
    | 0, 2, hi, hj2 => simp at hi hj2; subst hi hj2; exact absurd e.symm f1
    | 2, 0, hi, hj2 => simp at hi hj2; subst hi hj2; exact absurd e f1
    | 1, 2, hi, hj2 => simp at hi hj2; subst hi hj2; exact absurd e.symm f2
    | 2, 1, hi, hj2 => simp at hi hj2; subst hi hj2; exact absurd e f2
    | i + 3, _, hi, _ => simp at hi
    | _, j + 3, _, hj2 => simp at hj2
def EndsS (ar : List AV) (d d' : Hid) (l : List Lay) (s' : St) : Prop :=
  ∃ (i j : Nat) (x : V2) (o : Ob) (p0 p1 p2 : Lay), ar = [.hptr 0, .agg [.int .i64 7, .int .i64 (.ofNat i)], .int .i64 (.ofNat j), .agg [.int .i64 x.1, .int .i64 x.2]] ∧ d.rows[i]? = some o ∧ d' = ⟨d.kind, d.nums, d.rows.set i (setO o j x), d.names⟩ ∧
    l = [p0, p1, p2] ∧ rowI s' 0 = some (p0.vals, 66, true) ∧ rowI s' 1 = some (p1.vals, 115, true) ∧ rowI s' 2 = some (cellsA (o.2.set j x), 29, true)

theorem ends81 (ar : List AV) (d d' : Hid) (l : List Lay) (s' : St) (b : Nat) (own : Nat → Prop) (w : World) (E' : Env) (w' : World) (z : Nat → Nat → Option Value) (hS : SeesS ar d b own w l) (hEnd : EndsS ar d d' l s') (hp0 : ∃ p, l[0]? = some p ∧ p.b = b ∧ p.base = 0) (hown : ∀ p ∈ l, own p.b)
    (hs : Step (Env.lay l z w G1.H) (St.rows (Lay.of l)) w E' s' w') (hsz : ∀ c, own c → c < w.heap.size) (hfr : ∀ c, c < w.heap.size → (∀ p ∈ l, p.b ≠ c) → w'.heap[c]? = w.heap[c]?) :
    ∃ own', (∀ c, own' c → c < w'.heap.size ∧ (own c ∨ w.heap.size ≤ c)) ∧ ∀ w1 : World, (∀ c, own' c → w1.heap[c]? = w'.heap[c]?) → G1.H d' b own' w1 := by
  have hlay : ∀ r c base, (Env.lay l z w G1.H).loc r = some (c, base) → ∃ p, l[r]? = some p ∧ p.b = c ∧ p.base = base := fun r c base e => by
    have e : (l[r]?).map (fun p => (p.b, p.base)) = some (c, base) := e
    cases hp : l[r]? with
    | none => rw [hp] at e; cases e
    | some p => rw [hp] at e; cases e; exact ⟨p, rfl, rfl, rfl⟩
  have hnew : ∀ r c base, E'.loc r = some (c, base) → w.heap.size ≤ c ∨ ∃ p ∈ l, p.b = c := fun r c base e => by
    rcases hs.new r c base e with h1 | ⟨r0, base0, h1⟩
    · exact .inl h1
    · obtain ⟨p, hp, h2, _⟩ := hlay r0 c base0 h1
      exact .inr ⟨p, List.mem_of_getElem? hp, h2⟩
  let own' : Nat → Prop := fun c => own c ∨ ∃ r base, E'.loc r = some (c, base)
  have hl' : ∀ r c base, E'.loc r = some (c, base) → own' c := fun r c base e => .inr ⟨r, base, e⟩
  refine ⟨own', fun c hc => ?_, fun w1 hw => ?_⟩
  · rcases hc with hc | ⟨r, base, hc⟩
    · exact ⟨Nat.lt_of_lt_of_le (hsz c hc) hs.size, .inl hc⟩
    · refine ⟨(hs.rel.lt r c base hc).2, ?_⟩
      rcases hnew r c base hc with h1 | ⟨p, hp, rfl⟩
      · exact .inr h1
      · exact .inl (hown p hp)
  obtain ⟨L, U, i, j, x, o, bo, base, bs, rs, sb, has, s1, s2, s3, s4, s5, m1, hio, hj, m3, m4, m5, rfl⟩ := hS
  obtain ⟨i', j', x', o', p0, p1, p2, has', hio', rfl, hl, r0, r1, r2⟩ := hEnd
  rw [has] at has'
  simp only [List.cons.injEq, AV.agg.injEq, AV.int.injEq, true_and, and_true, Int.ofNat.injEq] at has'
  obtain ⟨rfl, rfl, hx1, hx2⟩ := has'
  obtain rfl : x = x' := Prod.ext hx1 hx2
  rw [hio] at hio'
  obtain rfl : o = o' := by simpa using hio'
  simp only [List.cons.injEq, and_true] at hl
  obtain ⟨rfl, rfl, rfl⟩ := hl
  have hloc0 : E'.loc 0 = some (b, 0) := hs.le.loc 0 _ rfl
  have hloc1 : E'.loc 1 = some (bo, base) := hs.le.loc 1 _ rfl
  have hloc2 : E'.loc 2 = some (sb i, bs) := hs.le.loc 2 _ rfl
  have hb' : own' b := .inl s5
  have hne : o.2 ≠ [] := by intro e; rw [e] at hj; simp at hj
  have hlen : rs.length = d.rows.length := by rw [← m1, List.length_map]
  obtain ⟨arr, g1, g2, g3, vs, v1, g5⟩ := row_cells hs.rel r0 hloc0
  have v2 : CellsAt w1 b 66 0 vs := ⟨arr, by rw [hw b hb']; exact g1, by rw [← v1.length]; exact g3, g5⟩
  cases v1 with
  | cons a1 v1 => cases v1 with
    | cons a2 v1 => cases v1 with
      | cons a3 v1 => cases v1 with
        | cons a4 v1 => cases v1 with
          | cons a5 v1 =>
            cases v1
            cases a1; cases a2
            have := mt_slice a4
            subst this
            have hpos : 0 < rs.length := by
              rcases Nat.eq_zero_or_pos rs.length with h | h
              · have : d.rows = [] := List.eq_nil_of_length_eq_zero (by omega)
                rw [this] at hio; simp at hio
              · exact h
            obtain ⟨b1, base1, vs1, l1, l2, l3⟩ := sl_is hs.rel hw hl' hpos a3 r1
            rw [hloc1] at l1
            cases l1
            have hset : (d.rows.set i (setO o j x)).length = d.rows.length := List.length_set
            have hat : ∀ k ob, (d.rows.set i (setO o j x))[k]? = some ob → ∃ p : Ob × Value, rs[k]? = some p ∧ ((k ≠ i ∧ p.1 = ob) ∨ (k = i ∧ p.1 = o ∧ ob = setO o j x)) := fun k ob hk => by
              rw [List.getElem?_set] at hk
              by_cases hki : i = k
              · subst hki
                rw [if_pos rfl] at hk
                have hlt : i < d.rows.length := (List.getElem?_eq_some_iff.1 hio).1
                rw [if_pos hlt] at hk
                have hio2 := hio
                rw [← m1, List.getElem?_map] at hio2
                cases hp : rs[i]? with
                | none => rw [hp] at hio2; cases hio2
                | some p => rw [hp] at hio2; exact ⟨p, rfl, .inr ⟨rfl, by simpa using hio2, by simpa using hk.symm⟩⟩
              · rw [if_neg hki, ← m1, List.getElem?_map] at hk
                cases hp : rs[k]? with
                | none => rw [hp] at hk; cases hk
                | some p => rw [hp] at hk; exact ⟨p, rfl, .inl ⟨fun e => hki e.symm, by simpa using hk⟩⟩
            have hne2 : ∀ {k : Nat} {p : Ob × Value} {ob : Ob}, (k ≠ i ∧ p.1 = ob) ∨ (k = i ∧ p.1 = o ∧ ob = setO o j x) → ob.2 ≠ [] → p.1.2 ≠ [] := fun h hob => by
              rcases h with ⟨_, rfl⟩ | ⟨_, h, _⟩
              · exact hob
              · rw [h]; exact hne
            refine ⟨L, U, _, _, s1, s2, s3, by rw [hset]; exact s4, hb', v2, .inr ⟨bo, vs1, sb, fun e => ?_, by rw [hset, ← hlen]; exact l3, m4, ?_, fun k ob hk => ?_, fun k ob hk => ?_, fun k ob hk hob => ?_, fun k1 k2 ob pb hk1 hk2 hob hpb he => ?_⟩⟩
            · have := congrArg List.length (show d.rows.set i (setO o j x) = [] from e)
              rw [hset] at this; simp only [List.length_nil] at this; omega
            · rw [hset, ← l2.length, objsQ_len, hlen]
            · obtain ⟨p, hp, hc⟩ := hat k ob hk
              obtain ⟨v, t1, t2⟩ := l2.at_ (objsQ_0 rs i o.2.length k p hp).1
              cases t2
              rcases hc with ⟨_, rfl⟩ | ⟨_, h, rfl⟩
              · exact t1
              · rw [h] at t1; exact t1
            · obtain ⟨p, hp, hc⟩ := hat k ob hk
              obtain ⟨v, t1, t2⟩ := l2.at_ (objsQ_0 rs i o.2.length k p hp).2
              rcases hc with ⟨hki, rfl⟩ | ⟨hki, h, rfl⟩
              · rw [if_neg hki] at t2
                cases t2
                refine ⟨_, t1, (m5.is k p hp).keep .inl fun h0 ho => (hw _ (.inl ho)).trans (hfr _ (hsz _ ho) fun q hq => ?_)⟩
                have hf := m5.far k p hp h0
                simp at hq
                rcases hq with rfl | rfl | rfl
                · exact hf.1.symm
                · exact hf.2.symm
                · intro e
                  obtain ⟨pi, hpi⟩ : ∃ pi, rs[i]? = some pi := by
                    have hlt : i < d.rows.length := (List.getElem?_eq_some_iff.1 hio).1
                    exact ⟨_, List.getElem?_eq_getElem (by omega)⟩
                  have hpi2 : pi.1 = o := by
                    have := hio
                    rw [← m1, List.getElem?_map, hpi] at this
                    simpa using this
                  exact hki (m5.apart i k pi p hpi hp (by rw [hpi2]; exact hne) h0 e).symm
              · subst hki
                rw [if_pos rfl] at t2
                obtain ⟨b2, base2, vs2, q1, q2, q3⟩ := sl_is hs.rel hw hl' (by cases ho2 : o.2 with | nil => exact absurd ho2 hne | cons => simp) t2 r2
                rw [hloc2] at q1
                cases q1
                rw [cellsA_vals q2] at q3
                refine ⟨v, t1, .inr ⟨?_, ?_⟩⟩
                · intro e
                  have : (o.2.set j x).length = 0 := by rw [show o.2.set j x = [] from e]; rfl
                  rw [List.length_set] at this
                  omega
                · show SliceIs own' w1 29 2 (o.2.set j x).length (cellsV (o.2.set j x)) v (sb k)
                  rw [List.length_set]; exact q3
            · obtain ⟨p, hp, hc⟩ := hat k ob hk
              exact m5.far k p hp (hne2 hc hob)
            · obtain ⟨p, hp, hc⟩ := hat k1 ob hk1
              obtain ⟨q, hq, hc2⟩ := hat k2 pb hk2
              exact m5.apart k1 k2 p q hp hq (hne2 hc hob) (hne2 hc2 hpb) he

theorem G1_plain : GlobPlain G1 := fun _ _ h => by cases h
theorem k81 : MethOk Tryz.prog G0 81 F81 := by
  have key : MethOk Tryz.prog G1 81 F81 := pres_knownA (G := G1) (F := F81) (f := 81) (X := XS) (D := noLive) (m := 5) (loops := 5) (n := 8) (Sees := SeesS) (Ends := EndsS) hm hn G1_plain (kG1 kXS) sees81 (fun d b own w l ar y d' hS hF => by
    unfold F81 at hF
    split at hF
    case h_2 => cases hF
    rename_i i j t N
    simp only [Option.some.injEq, Prod.mk.injEq] at hF
    obtain ⟨hok, rfl, rfl⟩ := hF
    obtain ⟨L, U, i', j', x, o, bo, base, bs, rs, sb, has, s1, s2, s3, s4, s5, m1, hio, hj, m3, m4, m5, rfl⟩ := hS
    simp only [List.cons.injEq, AV.agg.injEq, AV.int.injEq, true_and, and_true, Int.ofNat.injEq] at has
    obtain ⟨rfl, rfl, hx1, hx2⟩ := has
    obtain rfl : x = (t, N) := Prod.ext hx1.symm hx2.symm
    refine ⟨_, rfl, rfl, rfl, ?_⟩
    have hlen : rs.length = d.rows.length := by rw [← m1, List.length_map]
    have hi : i < d.rows.length := (List.getElem?_eq_some_iff.1 hio).1
    obtain ⟨p, hp, hpo⟩ : ∃ p, rs[i]? = some p ∧ p.1 = o := by
      have h := hio
      rw [← m1, List.getElem?_map] at h
      cases hr : rs[i]? with
      | none => rw [hr] at h; cases h
      | some p => rw [hr] at h; exact ⟨p, rfl, by simpa using h⟩
    unfold setOk at hok
    rw [hio] at hok
    obtain ⟨hj2, hsnd⟩ := Bool.and_eq_true_iff.1 hok
    obtain ⟨k0, V, hV⟩ : ∃ k0 V, objsQ rs i o.2.length = .int .i64 k0 :: V := by
      cases rs with
      | nil => simp at hp
      | cons q r => cases i with
        | zero => exact ⟨_, _, rfl⟩
        | succ i => exact ⟨_, _, rfl⟩
    obtain ⟨n, hn1⟩ : ∃ n, rs.length = n + 1 := ⟨rs.length - 1, by omega⟩
    have hc := (objsQ_0 rs i o.2.length i p hp).2
    rw [if_pos rfl, hV] at hc
    have tree := tSet L U n i j t N k0 V (cellsA o.2)
    rw [leI_f (show Int.ofNat i < Int.ofNat (n + 1) by simp; omega), show Nat.blt i (n + 1) = true by simp; omega, show 0 + i * 10 + 1 = 10 * i + 1 by omega, hc] at tree
    have tree : runSet Tryz.prog L U (n + 1) i j t N (.int .i64 k0 :: V) (cellsA o.2) = byB (leI (.ofNat o.2.length) (.ofNat j)) (setR L U (n + 1) (.int .i64 k0 :: V) (cellsA o.2) 12)
      (ifK (Nat.blt j o.2.length && Nat.beq 2 2) (byB (sndB (n + 1) t N) (optK (fun vals => setR L U (n + 1) (.int .i64 k0 :: V) vals 0) (overwrite (cellsA o.2) (0 + j * 2) [.int .i64 t, .int .i64 N])) (setR L U (n + 1) (.int .i64 k0 :: V) (cellsA o.2) 2))) := tree
    rw [leI_f (show Int.ofNat j < Int.ofNat o.2.length by simp; omega), hj2, show n + 1 = d.rows.length by omega, hsnd, overwrite_cells (t, N) o.2 j hj] at tree
    have tree : runSet Tryz.prog L U d.rows.length i j t N (.int .i64 k0 :: V) (cellsA o.2) = some (.int .i64 0, some (sto1 L U 1 d.rows.length, 66, true), some (.int .i64 k0 :: V, 115, true), some (cellsA (o.2.set j (t, N)), 29, true), some (cellsA (o.2.set j (t, N)), 29, true)) := tree
    obtain ⟨s', r1, r2, r3, r4, _⟩ := of_mkR (bodyY_le kYS tree)
    rw [hlen, hV]
    exact ⟨s', r1, i, j, (t, N), o, _, _, _, rfl, hio, by unfold setOf; rw [hio], rfl, r2, r3, r4⟩) ends81
  exact fun ar s E w vs h1 h2 h3 => key ar s E w vs h1 ⟨h2.1, h2.2⟩ h3
end Go.Am.Sto
end
section
set_option autoImplicit false
set_option maxRecDepth 100000
namespace Go.Am.Sto
open Go Go.Am Go.Proofs

section
variable (L U a b : Int) (tt : Bool)
def one (P : Program) (j r q : Nat) (l : List (TypeId × List AV)) : Option (AV × RowI × RowI × RowI × RowI) := runMk P j r q 3 l (.lst [.int .i64 a, .int .i64 b] 1 tt false)
theorem one0 : one a b tt Tryz.prog 0 9 5 [(66, sto0 L U)] =
    byB (sndB 0 a b) (ifK (chk1 L U) (byB (full L U 1) (some (errV 16, some (sto0 L U, 66, true), some (sto0 L U, 66, true), none, some ([.int .i64 a, .int .i64 b], 29, true)))
      (ifK (chk2 U) (some (objV 0, some (sto1 L (pay U 1) 9 1, 66, true), some (sto1 L (pay U 1) 9 1, 66, true), some (.int .i64 3 :: .sl 5 0 1 2 false :: rest8, 115, true), some ([.int .i64 a, .int .i64 b], 29, true))))))
      (some (errV 2, some (sto0 L U, 66, true), some (sto0 L U, 66, true), none, none)) := by kernel_rfl
theorem one1 (o : Ob × Value) (rs : List (Ob × Value)) : one a b tt Tryz.prog 1 10 6 [(66, sto1 L U 1 (rs.length + 1)), (115, objsP (o :: rs))] =
    byB (sndB (rs.length + 1) a b) (ifK (chk1 L U) (byB (full L U 1) (some (errV 16, some (sto1 L U 1 (rs.length + 1), 66, true), some (objsP (o :: rs), 115, true), none, some ([.int .i64 a, .int .i64 b], 29, true)))
      (ifK (chk2 U) (ifK (Nat.ble (rs.length + 1 + 1) 1073741824) (optK (fun old => some (objV (IntKind.i64.wrap ((.ofNat (rs.length + 1 + 1)) - 1)), some (sto1 L (pay U 1) 10 (rs.length + 1 + 1), 66, true),
        some (objsP (o :: rs), 115, Nat.beq 0 (bif Nat.ble (1 + (objsP (o :: rs)).length) (1 + 0 + (rs.length + 1) * 10) then 0 else 0 + 1)), some (old ++ (.int .i64 3 :: .sl 6 0 1 2 false :: rest8), 115, fresh1 (objsP (o :: rs)).length (rs.length + 1)), some ([.int .i64 a, .int .i64 b], 29, true))) (cutN ((rs.length + 1) * 10) 0 (objsP (o :: rs))))))))
      (some (errV 2, some (sto1 L U 1 (rs.length + 1), 66, true), some (objsP (o :: rs), 115, true), none, none)) := by kernel_rfl
end
def F38b (d : Hid) : List AV → Option (Bool × AV × Hid)
  | [.hptr 0, .int .i64 3, .lst [.int .i64 a, .int .i64 b] 1 _ false] => some (true, getV (mkOf d 3 [(a, b)]).1, (mkOf d 3 [(a, b)]).2)
  | _ => none

theorem k38b : MethOk Tryz.prog G0 38 F38b := pres_known (D := noLive) (m := 5) (loops := 5) (n := 8) (Sees := Sees) (Ends := Ends) hm hn G0_plain kXS sees (fun d b own w l ar x d' hS hF => by
  unfold F38b at hF
  split at hF
  · rename_i a0 b0 tt
    obtain ⟨L, U, s1, s2, s3, s4, s5, s6⟩ := hS
    have hmk : mkOf d 3 [(a0, b0)] = byB (okAll d.rows.length [(a0, b0)]) (byB (full L U 1) (((0, 0), 16), d) (((7, .ofNat d.rows.length), 0), ⟨0, [L, pay U 1], d.rows ++ [(3, [(a0, b0)])], []⟩)) (((0, 0), 2), d) := by
      unfold mkOf; rw [s2]; rfl
    rw [hmk] at hF
    have hall : okAll d.rows.length [(a0, b0)] = sndB d.rows.length a0 b0 := by simp [okAll]
    rw [hall] at hF
    refine ⟨_, rfl, rfl, ?_⟩
    rcases s6 with ⟨h7, rfl⟩ | ⟨bo, base, o, rs, sb, m1, rfl, m3, m4, m5⟩
    · have hn0 : d.rows.length = 0 := by rw [h7]; rfl
      rw [hn0] at hF
      have tree := one0 L U a0 b0 tt
      rw [chk1_t, chk2_t] at tree
      have run : ∀ {x a b c e}, one a0 b0 tt Tryz.prog 0 9 5 [(66, sto0 L U)] = some (x, a, b, c, e) → ∃ s', bodyD Tryz.prog G0 (callN Tryz.prog G0 XS 5 8) noLive 5 Tryz.prog.funcs[38]? [.ptr 0 0, .int .i64 3, .lst [.int .i64 a0, .int .i64 b0] 1 tt false] (St.rows [(66, sto0 L U)]) = .ret x s' ∧ rowI s' 0 = a ∧ rowI s' 0 = b ∧ rowI s' 9 = c ∧ rowI s' 5 = e := fun h => of_mkR (bodyY_le kYS h)
      cases hs1 : sndB 0 a0 b0 with
      | false =>
        rw [hs1] at hF tree
        cases hF
        obtain ⟨s', r1, r2, _⟩ := run tree
        exact ⟨rfl, s', r1, ends_same0 r2⟩
      | true =>
        rw [hs1] at hF tree
        cases hfu : full L U 1 with
        | true =>
          rw [hfu] at hF tree
          cases hF
          obtain ⟨s', r1, r2, _⟩ := run tree
          exact ⟨rfl, s', r1, ends_same0 r2⟩
        | false =>
          rw [hfu] at hF tree
          cases hF
          obtain ⟨s', r1, r2, _, r3, r4⟩ := run tree
          refine ⟨rfl, s', r1, .inr ⟨L, U, pay U 1, 9, 5, 3, [(a0, b0)], [], .sl 5 0 1 2 false, s2, rfl, fit_more s4 (by omega) hfu, by rw [hn0]; exact r2, r3, .inl ⟨rfl, rfl⟩, .inl ⟨by simp, rfl, r4⟩⟩⟩
    · have hn1 : d.rows.length = rs.length + 1 := by rw [← m1]; simp
      rw [hn1] at hF
      have tree := one1 L U a0 b0 tt o rs
      have hble : Nat.ble (rs.length + 1 + 1) 1073741824 = true := Nat.ble_eq_true_of_le (by
        obtain ⟨q1, q2, q3, q4⟩ := s4
        rw [hn1] at q4; omega)
      rw [chk1_t, chk2_t, hble, cut_objs (o :: rs) (rs.length + 1) rfl] at tree
      have run : ∀ {x a b c e}, one a0 b0 tt Tryz.prog 1 10 6 [(66, sto1 L U 1 (rs.length + 1)), (115, objsP (o :: rs))] = some (x, a, b, c, e) → ∃ s', bodyD Tryz.prog G0 (callN Tryz.prog G0 XS 5 8) noLive 5 Tryz.prog.funcs[38]? [.ptr 0 0, .int .i64 3, .lst [.int .i64 a0, .int .i64 b0] 1 tt false] (St.rows [(66, sto1 L U 1 (rs.length + 1)), (115, objsP (o :: rs))]) = .ret x s' ∧ rowI s' 0 = a ∧ rowI s' 1 = b ∧ rowI s' 10 = c ∧ rowI s' 6 = e := fun h => of_mkR (bodyY_le kYS h)
      cases hs1 : sndB (rs.length + 1) a0 b0 with
      | false =>
        rw [hs1] at hF tree
        cases hF
        obtain ⟨s', r1, r2, r3, _⟩ := run tree
        exact ⟨rfl, s', r1, ends_same1 r2 r3⟩
      | true =>
        rw [hs1] at hF tree
        cases hfu : full L U 1 with
        | true =>
          rw [hfu] at hF tree
          cases hF
          obtain ⟨s', r1, r2, r3, _⟩ := run tree
          exact ⟨rfl, s', r1, ends_same1 r2 r3⟩
        | false =>
          rw [hfu] at hF tree
          cases hF
          have hi : IntKind.i64.wrap (Int.ofNat (rs.length + 1 + 1) - 1) = Int.ofNat (rs.length + 1) := by
            obtain ⟨q1, q2, q3, q4⟩ := s4
            rw [hn1] at q4
            rw [wrap64 (by simp only [Int.ofNat_eq_natCast]; omega) (by simp only [Int.ofNat_eq_natCast]; omega)]
            simp only [Int.ofNat_eq_natCast]; omega
          have tree2 : one a0 b0 tt Tryz.prog 1 10 6 [(66, sto1 L U 1 (rs.length + 1)), (115, objsP (o :: rs))] = some (objV (IntKind.i64.wrap ((.ofNat (rs.length + 1 + 1)) - 1)), some (sto1 L (pay U 1) 10 (rs.length + 1 + 1), 66, true),
            some (objsP (o :: rs), 115, Nat.beq 0 (bif Nat.ble (1 + (objsP (o :: rs)).length) (1 + 0 + (rs.length + 1) * 10) then 0 else 0 + 1)), some (objsP (o :: rs) ++ (.int .i64 3 :: .sl 6 0 1 2 false :: rest8), 115, fresh1 (objsP (o :: rs)).length (rs.length + 1)), some ([.int .i64 a0, .int .i64 b0], 29, true)) := tree
          rw [hi, show fresh1 (objsP (o :: rs)).length (rs.length + 1) = true from beq_self' _] at tree2
          obtain ⟨s', r1, r2, _, r3, r4⟩ := run tree2
          refine ⟨rfl, s', r1, .inr ⟨L, U, pay U 1, 10, 6, 3, [(a0, b0)], objsP (o :: rs), .sl 6 0 1 2 false, s2, rfl, fit_more s4 (by omega) hfu, by rw [hn1]; exact r2, r3, .inr ⟨_, rfl, rfl⟩, .inl ⟨by simp, rfl, r4⟩⟩⟩
  · cases hF) ends

end Go.Am.Sto
end
