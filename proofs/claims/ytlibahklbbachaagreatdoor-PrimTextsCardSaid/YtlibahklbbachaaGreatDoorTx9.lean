import Derived.Test.YtlibahklbbachaaGreatDoorTx8
set_option autoImplicit false
set_option maxRecDepth 100000
set_option linter.unusedSimpArgs false
set_option linter.unusedVariables false
namespace Go.Am.Sto
open Go Go.Am Go.Proofs
/-! ## How it is laid out -/
def Fit (L U : Int) (n : Nat) : Prop := 0 ≤ U ∧ U ≤ L ∧ L ≤ 1048576 ∧ (n : Int) ≤ U
structure Slots (own : Nat → Prop) (w : World) (rs : List (Ob × Value)) (sb : Nat → Nat) (b bo : Nat) : Prop where
  is : ∀ i p, rs[i]? = some p → SlotsIs own w p.1.2 p.2 (sb i)
  far : ∀ i p, rs[i]? = some p → p.1.2 ≠ [] → sb i ≠ b ∧ sb i ≠ bo
  apart : ∀ i j p q, rs[i]? = some p → rs[j]? = some q → p.1.2 ≠ [] → q.1.2 ≠ [] → sb i = sb j → i = j
def BlkOk (w : World) (l : List Lay) : Prop := ∀ p ∈ l, ∃ c, w.heap[p.b]? = some (.cells c p.ty (0, 0)) ∧ p.ty ≠ 9
def nmL (l : List Lay) : AV × AV := match l with | p :: _ => (p.vals.getD 3 .undef, p.vals.getD 4 .undef) | [] => (.undef, .undef)
def Sees (d : Hid) (b : Nat) (own : Nat → Prop) (w : World) (l : List Lay) : Prop :=
  ∃ L U nv mv, d.kind = 0 ∧ d.nums = [L, U] ∧ (NamesIs own w d.names nv mv ∧ BlkOk w l) ∧ Fit L U d.rows.length ∧ own b ∧
    ((d.rows = [] ∧ l = [⟨b, 0, 66, sto0 nv mv L U⟩]) ∨ ∃ (bo base : Nat) (o : Ob × Value) (rs : List (Ob × Value)) (sb : Nat → Nat), (o :: rs).map (·.1) = d.rows ∧ l = [⟨b, 0, 66, sto1 nv mv L U 1 (rs.length + 1)⟩, ⟨bo, base, 115, objsP (o :: rs)⟩] ∧
      own bo ∧ bo ≠ b ∧ Slots own w (o :: rs) sb b bo)
theorem NamesIs.two {own : Nat → Prop} {w : World} {names : List (List Nat)} {nv mv : Value} (h : NamesIs own w names nv mv) : mv.oneCell' = true := by
  obtain ⟨_, bm, ents, clock, rfl, _⟩ := h; rfl
theorem slots_slice {own : Nat → Prop} {w : World} {sl : List V2} {sv : Value} {b : Nat} (h : SlotsIs own w sl sv b) : sv.oneCell' = true := by
  rcases h with ⟨_, a, cap, rfl, _⟩ | ⟨_, base, cap, rfl, _⟩ <;> rfl
theorem objsP_VRL {E : Env} : ∀ (rows : List Ob) (ovs : List Value), ovs.length = 10 * rows.length → (∀ i o, rows[i]? = some o → ovs[10 * i]? = some (.int .i64 o.1)) →
    (∀ i o, rows[i]? = some o → ∃ sv, ovs[10 * i + 1]? = some sv ∧ sv.oneCell' = true) → ∃ rs : List (Ob × Value), rs.map (·.1) = rows ∧ VRL E (objsP rs) ovs ∧ ∀ i p, rs[i]? = some p → ovs[10 * i + 1]? = some p.2
  | [], ovs, hl, _, _ => by
    have : ovs = [] := List.eq_nil_of_length_eq_zero (by simpa using hl)
    subst this
    exact ⟨[], rfl, .nil, fun i p h => by simp at h⟩
  | o :: rows, ovs, hl, hk, hs => by
    match ovs, hl with
    | v0 :: v1 :: v2 :: v3 :: v4 :: v5 :: v6 :: v7 :: v8 :: v9 :: rest, hl =>
      obtain ⟨rs, h1, h2, h3⟩ := objsP_VRL (E := E) rows rest (by simp only [List.length_cons] at hl; omega) (fun i p hp => by
          have := hk (i + 1) p (by simpa using hp)
          rw [show 10 * (i + 1) = 10 * i + 10 by omega] at this
          simpa only [List.getElem?_cons_succ] using this) (fun i p hp => by
          have := hs (i + 1) p (by simpa using hp)
          rw [show 10 * (i + 1) + 1 = 10 * i + 1 + 10 by omega] at this
          simpa only [List.getElem?_cons_succ] using this)
      have k0 := hk 0 o rfl
      obtain ⟨sv, k1, k2⟩ := hs 0 o rfl
      simp only [Nat.mul_zero, List.getElem?_cons_zero, Option.some.injEq] at k0
      simp only [Nat.mul_zero, Nat.zero_add, List.getElem?_cons_succ, List.getElem?_cons_zero, Option.some.injEq] at k1
      subst k0 k1
      refine ⟨(o, v1) :: rs, by simp [h1], .cons (.int _ _) (.cons (.lit v1 k2) (.cons (.undef _) (.cons (.undef _) (.cons (.undef _) (.cons (.undef _) (.cons (.undef _) (.cons (.undef _) (.cons (.undef _) (.cons (.undef _) h2))))))))), fun i p hp => ?_⟩
      cases i with
      | zero => simp at hp; subst hp; rfl
      | succ i =>
        rw [show 10 * (i + 1) + 1 = 10 * i + 1 + 10 by omega]
        simp only [List.getElem?_cons_succ]
        exact h3 i p (by simpa using hp)
    | [], hl | [_], hl | [_, _], hl | [_, _, _], hl | [_, _, _, _], hl | [_, _, _, _, _], hl | [_, _, _, _, _, _], hl | [_, _, _, _, _, _, _], hl | [_, _, _, _, _, _, _, _], hl | [_, _, _, _, _, _, _, _, _], hl => simp only [List.length_cons, List.length_nil] at hl; omega
def noZ : Nat → Nat → Option Value := fun _ _ => none
theorem sees (d : Hid) (b : Nat) (own : Nat → Prop) (w : World) (h : H0 d b own w) : ∃ l z, Sees d b own w l ∧ (∃ p, l[0]? = some p ∧ p.b = b ∧ p.base = 0) ∧ (∀ p ∈ l, own p.b) ∧ (∀ p ∈ l, LayOk (Env.lay l z w G0.H) w p) ∧
    (∀ (i j : Nat) (p q : Lay), l[i]? = some p → l[j]? = some q → p.b = q.b → i = j) ∧ (∀ c o v, z c o = some v → w.cell? ⟨c, o, none⟩ = some v ∧ own c ∧ ∀ p ∈ l, p.b ≠ c) := by
  obtain ⟨L, U, ov, nv, mv, h1, h2, h3, hf, h4, ⟨c, g1, g2, g3⟩, h6⟩ := h
  rcases h6 with ⟨h7, h8⟩ | ⟨bo, ovs, sb, h7, ⟨base, cap, rfl, k1, k2, c2, k3, k4, k5⟩, h9, ho⟩
  · subst h8
    refine ⟨[⟨b, 0, 66, sto0 nv mv L U⟩], noZ, ⟨L, U, nv, mv, h1, h2, ⟨h3, fun p hp => by simp at hp; subst hp; exact ⟨c, g1, (show (66 : Nat) ≠ 9 by decide)⟩⟩, hf, h4, .inl ⟨h7, rfl⟩⟩, ⟨_, rfl, rfl, rfl⟩, fun p hp => by simp at hp; subst hp; exact h4, fun p hp => ?_, fun i j p q hi hj _ => ?_, fun c o v e => by cases e⟩
    · simp at hp
      subst hp
      exact ⟨c, g1, g2, _, .cons (.int _ _) (.cons (.int _ _) (.cons (.lst .nil (Nat.le_refl _) (fun _ => rfl) rfl (fun _ => rfl) (fun e => absurd rfl e)) (.cons (.lit nv h3.one) (.cons (.lit mv h3.two) .nil)))), g3⟩
    · cases i with
      | zero => cases j with | zero => rfl | succ j => simp at hj
      | succ i => simp at hi
  · obtain ⟨rs, m1, m2, m3⟩ : ∃ rs : List (Ob × Value), rs.map (·.1) = d.rows ∧ (∀ E : Env, VRL E (objsP rs) ovs) ∧ ∀ i p, rs[i]? = some p → ovs[10 * i + 1]? = some p.2 := by
      have key := fun E => objsP_VRL (E := E) d.rows ovs ho.len ho.kind fun i o hi => by
        obtain ⟨sv, q1, q2⟩ := ho.slots i o hi
        exact ⟨sv, q1, slots_slice q2⟩
      obtain ⟨rs, m1, _, m3⟩ := key Env.none
      refine ⟨rs, m1, fun E => ?_, m3⟩
      obtain ⟨rs', n1, n2, n3⟩ := key E
      have : rs' = rs := by
        apply List.ext_getElem?
        intro i
        have e1 : (rs'[i]?).map (·.1) = (rs[i]?).map (·.1) := by rw [← List.getElem?_map, ← List.getElem?_map, m1, n1]
        cases hr : rs[i]? with
        | none => rw [hr] at e1; cases hr' : rs'[i]? with | none => rfl | some p => rw [hr'] at e1; cases e1
        | some p =>
          rw [hr] at e1
          cases hr' : rs'[i]? with
          | none => rw [hr'] at e1; cases e1
          | some p' =>
            rw [hr'] at e1
            have e2 := (m3 i p hr).symm.trans (n3 i p' hr')
            simp only [Option.map_some, Option.some.injEq] at e1 e2
            rw [Prod.ext e1.symm e2]
      rw [← this]; exact n2
    have hlen : rs.length = d.rows.length := by rw [← m1, List.length_map]
    cases rs with
    | nil => exact absurd m1.symm h7
    | cons o rs =>
      have hn : rs.length + 1 = d.rows.length := by rw [← hlen]; rfl
      refine ⟨[⟨b, 0, 66, sto1 nv mv L U 1 (rs.length + 1)⟩, ⟨bo, base, 115, objsP (o :: rs)⟩], noZ, ⟨L, U, nv, mv, h1, h2, ⟨h3, fun p hp => by
        simp at hp
        rcases hp with rfl | rfl
        · exact ⟨c, g1, (show (66 : Nat) ≠ 9 by decide)⟩
        · exact ⟨c2, k3, (show (115 : Nat) ≠ 9 by decide)⟩⟩, hf, h4, .inr ⟨bo, base, o, rs, sb, m1, rfl, k2, h9, ?_, ?_, ?_⟩⟩, ⟨_, rfl, rfl, rfl⟩, fun p hp => ?_, fun p hp => ?_, fun i j p q hi hj e => ?_, fun c o v e => by cases e⟩
      · intro i p hp
        have hr : d.rows[i]? = some p.1 := by rw [← m1, List.getElem?_map, hp]; rfl
        obtain ⟨sv, q1, q2⟩ := ho.slots i p.1 hr
        have := m3 i p hp
        rw [q1] at this
        cases this
        exact q2
      · intro i p hp
        exact ho.far i p.1 (by rw [← m1, List.getElem?_map, hp]; rfl)
      · intro i j p q hp hq
        exact ho.apart i j p.1 q.1 (by rw [← m1, List.getElem?_map, hp]; rfl) (by rw [← m1, List.getElem?_map, hq]; rfl)
      · simp at hp
        rcases hp with rfl | rfl
        · exact h4
        · exact k2
      · simp at hp
        rcases hp with rfl | rfl
        · refine ⟨c, g1, g2, _, .cons (.int _ _) (.cons (.int _ _) (.cons (.sl (b := bo) (base := base) rfl (by rw [hn]; exact k1) (fun e => by cases e) (fun _ => ⟨rfl, ?_⟩) (by simp)) (.cons (.lit nv h3.one) (.cons (.lit mv h3.two) .nil)))), by rw [hn]; exact g3⟩
          show base + 0 + cap * 10 ≤ (match w.heap[bo]? with | some (.cells c _ _) => c.size | _ => 0)
          rw [k3]; exact k4
        · refine ⟨c2, k3, ?_, ovs, m2 _, k5⟩
          have : (objsP (o :: rs)).length = ovs.length := (m2 Env.none).length
          show base + (objsP (o :: rs)).length ≤ c2.size
          rw [this, ho.len]
          have := Nat.mul_le_mul_right 10 k1
          omega
      · match i, j, hi, hj with
        | 0, 0, _, _ => rfl
        | 1, 1, _, _ => rfl
        | 0, 1, hi, hj => simp at hi hj; subst hi hj; exact absurd e.symm h9
        | 1, 0, hi, hj => simp at hi hj; subst hi hj; exact absurd e h9
        | i + 2, _, hi, _ => simp at hi
        | _, j + 2, _, hj => simp at hj
/-! ## What comes of it -/
theorem rowI_at {s : St} {r : Nat} {vals : List AV} {ty : TypeId} (h : rowI s r = some (vals, ty, true)) : ∃ o, rowAt s r = some o ∧ o.vals = vals ∧ o.ty = ty := by
  unfold rowI at h
  split at h
  · rename_i o ho
    cases h' : valid s o with
    | false => rw [h'] at h; cases h
    | true =>
      rw [h'] at h
      cases h
      exact ⟨o, by unfold rowAt; rw [ho]; simp only [h', cond_true], rfl, rfl⟩
  · cases h
theorem row_cells {E : Env} {s : St} {w : World} (h : Rel E s w) {r c base : Nat} {vals : List AV} {ty : TypeId} (hr : rowI s r = some (vals, ty, true)) (hl : E.loc r = some (c, base)) :
    ∃ arr, w.heap[c]? = some (.cells arr ty (0, 0)) ∧ arr.size = E.bsz c ∧ base + vals.length ≤ arr.size ∧ ∃ vs, VRL E vals vs ∧ ∀ i v, vs[i]? = some v → arr[base + i]? = some v := by
  obtain ⟨o, h1, rfl, rfl⟩ := rowI_at hr
  obtain ⟨ho1, ho2⟩ := rowAt_eq h1
  obtain ⟨arr, ty, fz, g1, g2, g3, g4⟩ := h.row r o c base ho1 hl
  obtain ⟨⟨rfl, rfl⟩, vs, k1, k2⟩ := g4 ho2
  exact ⟨arr, g1, g2, g3, vs, k1, k2⟩
theorem mt_slice {E : Env} {v : Value} (h : VR E mt v) : v = .slice none 0 0 := by
  cases h with
  | lst hc hl ht hn hcap hz =>
    rename_i vs cap a
    cases a with
    | some a => cases hn
    | none => rw [hcap rfl]
theorem sl_is {E : Env} {s : St} {w w1 : World} (h : Rel E s w) {own : Nat → Prop} (hw : ∀ c, own c → w1.heap[c]? = w.heap[c]?) (hown : ∀ r c base, E.loc r = some (c, base) → own c) {r n es : Nat} {v : Value} (hn : 0 < n) (hv : VR E (.sl r 0 n es false) v) {vals : List AV} {ty : TypeId}
    (hr : rowI s r = some (vals, ty, true)) : ∃ b base vs, E.loc r = some (b, base) ∧ VRL E vals vs ∧ SliceIs own w1 ty es n vs v b := by
  cases hv with
  | sl hloc hle ht ha hsome =>
    rename_i b base cap a
    obtain ⟨ea, eb⟩ := ha (by omega)
    subst ea
    obtain ⟨arr, g1, g2, g3, vs, g4, g5⟩ := row_cells h hr hloc
    refine ⟨b, base, vs, hloc, g4, base, cap, rfl, hle, hown r b base hloc, arr, by rw [hw b (hown r b base hloc)]; exact g1, by rw [g2]; simpa using eb, g5⟩
theorem objsP_len : ∀ rs : List (Ob × Value), (objsP rs).length = 10 * rs.length
  | [] => rfl
  | _ :: rs => by simp only [objsP, List.length_cons, objsP_len rs]; omega
theorem objsP_0 : ∀ (rs : List (Ob × Value)) (i : Nat) (p : Ob × Value), rs[i]? = some p → (objsP rs)[10 * i]? = some (.int .i64 p.1.1) ∧ (objsP rs)[10 * i + 1]? = some (.lit p.2)
  | [], _, _, h => by simp at h
  | q :: rs, 0, p, h => by simp at h; subst h; exact ⟨rfl, rfl⟩
  | q :: rs, i + 1, p, h => by
    rw [show 10 * (i + 1) = 10 * i + 10 by omega, show 10 * i + 10 + 1 = 10 * i + 1 + 10 by omega]
    simp only [objsP, List.getElem?_cons_succ]
    exact objsP_0 rs i p (by simpa using h)
theorem SlotsIs.keep {own own' : Nat → Prop} {w w1 : World} {sl : List V2} {sv : Value} {b : Nat} (h : SlotsIs own w sl sv b) (ho : own b → own' b) (hw : sl ≠ [] → own b → w1.heap[b]? = w.heap[b]?) : SlotsIs own' w1 sl sv b := by
  rcases h with h | ⟨h0, base, cap, h1, h2, h3, c, h4, h5⟩
  · exact .inl h
  · exact .inr ⟨h0, base, cap, h1, h2, ho h3, c, by rw [hw h0 h3]; exact h4, h5⟩
def noCell : AV → Bool
  | .lst [] 0 true true => true
  | .sl _ 0 0 2 _ => true
  | _ => false
theorem no_slice {E : Env} {cell : AV} (h : noCell cell = true) {sv : Value} (hv : VR E cell sv) : ∃ a cap, sv = .slice a 0 cap ∧ (a = none → cap = 0) := by
  unfold noCell at h
  split at h
  · rw [mt_slice hv]; exact ⟨none, 0, rfl, fun _ => rfl⟩
  · cases hv with
    | sl hloc hle ht ha hs => exact ⟨_, _, rfl, fun e => absurd e hs⟩
  · cases h
def Ends (d d' : Hid) (l : List Lay) (s' : St) : Prop :=
  (d' = d ∧ ∀ i p, l[i]? = some p → rowI s' i = some (p.vals, p.ty, true)) ∨
  ∃ (L U U' : Int) (r q : Nat) (k : Int) (sl : List V2) (old : List AV) (cell : AV), d.nums = [L, U] ∧ d' = ⟨0, [L, U'], d.rows ++ [(k, sl)], d.names⟩ ∧ Fit L U' (d.rows.length + 1) ∧ rowI s' 0 = some ([.int .i64 L, .int .i64 U', .sl r 0 (d.rows.length + 1) 10 false, (nmL l).1, (nmL l).2], 66, true) ∧
    rowI s' r = some (old ++ (.int .i64 k :: cell :: rest8), 115, true) ∧ ((l.length = 1 ∧ old = []) ∨ ∃ x, l[1]? = some x ∧ old = x.vals) ∧
    ((sl ≠ [] ∧ cell = .sl q 0 sl.length 2 false ∧ rowI s' q = some (cellsA sl, 29, true)) ∨ (sl = [] ∧ noCell cell = true))
theorem cellsA_vals {E : Env} : ∀ {l : List V2} {vs : List Value}, VRL E (cellsA l) vs → vs = cellsV l
  | [], _, .nil => rfl
  | _ :: l, _, .cons h1 (.cons h2 h3) => by
    cases h1; cases h2
    rw [cellsA_vals h3]
    rfl
theorem ends (d d' : Hid) (l : List Lay) (s' : St) (b : Nat) (own : Nat → Prop) (w : World) (E' : Env) (w' : World) (z : Nat → Nat → Option Value) (hS : Sees d b own w l) (hEnd : Ends d d' l s') (hp0 : ∃ p, l[0]? = some p ∧ p.b = b ∧ p.base = 0) (hown : ∀ p ∈ l, own p.b)
    (hs : Step (Env.lay l z w G0.H) (St.rows (Lay.of l)) w E' s' w') (hsz : ∀ c, own c → c < w.heap.size) (hfr : ∀ c, c < w.heap.size → (∀ p ∈ l, p.b ≠ c) → w'.heap[c]? = w.heap[c]?) :
    ∃ own', (∀ c, own' c → c < w'.heap.size ∧ (own c ∨ w.heap.size ≤ c)) ∧ ∀ w1 : World, (∀ c, own' c → w1.heap[c]? = w'.heap[c]?) → G0.H d' b own' w1 := by
  have hlay : ∀ r c base, (Env.lay l z w G0.H).loc r = some (c, base) → ∃ p, l[r]? = some p ∧ p.b = c ∧ p.base = base := fun r c base e => by
    have e : (l[r]?).map (fun p => (p.b, p.base)) = some (c, base) := e
    cases hp : l[r]? with
    | none => rw [hp] at e; cases e
    | some p => rw [hp] at e; cases e; exact ⟨p, rfl, rfl, rfl⟩
  have hnew : ∀ r c base, E'.loc r = some (c, base) → w.heap.size ≤ c ∨ ∃ p ∈ l, p.b = c := fun r c base e => by
    rcases hs.new r c base e with h1 | ⟨r0, base0, h1⟩
    · exact .inl h1
    · obtain ⟨p, hp, h2, _⟩ := hlay r0 c base0 h1
      exact .inr ⟨p, List.mem_of_getElem? hp, h2⟩
  have hloc0 : E'.loc 0 = some (b, 0) := by
    obtain ⟨p, h1, h2, h3⟩ := hp0
    exact hs.le.loc 0 _ (by show (l[0]?).map _ = _; rw [h1]; simp [h2, h3])
  obtain ⟨L, U, nv, mv, s1, s2, ⟨s3, s7⟩, s4, s5, s6⟩ := hS
  let own' : Nat → Prop := fun c => own c ∨ ∃ r base, E'.loc r = some (c, base)
  have hl' : ∀ r c base, E'.loc r = some (c, base) → own' c := fun r c base e => .inr ⟨r, base, e⟩
  refine ⟨own', fun c hc => ?_, fun w1 hw => ?_⟩
  · rcases hc with hc | ⟨r, base, hc⟩
    · exact ⟨Nat.lt_of_lt_of_le (hsz c hc) hs.size, .inl hc⟩
    · refine ⟨(hs.rel.lt r c base hc).2, ?_⟩
      rcases hnew r c base hc with h1 | ⟨p, hp, rfl⟩
      · exact .inr h1
      · exact .inl (hown p hp)
  have hb' : own' b := .inl s5
  have hnm : NamesIs own' w1 d.names nv mv := s3.keep (fun c hc => .inl hc) (fun c arr ho hc => (hw c (.inl ho)).trans (hfr c (hsz c ho) fun p hp e => by
      obtain ⟨c2, k1, k2⟩ := s7 p hp
      rw [e, hc] at k1
      simp only [Option.some.injEq, Obj.cells.injEq] at k1
      exact k2 k1.2.1.symm)) (fun c ents clock ho hc => (hw c (.inl ho)).trans (hfr c (hsz c ho) fun p hp e => by
      obtain ⟨c2, k1, _⟩ := s7 p hp
      rw [e, hc] at k1; cases k1))
  have hnl : nmL l = (.lit nv, .lit mv) := by
    rcases s6 with ⟨_, rfl⟩ | ⟨_, _, _, _, _, _, rfl, _⟩ <;> rfl
  -- the store's own block
  have store : ∀ {vals : List AV}, rowI s' 0 = some (vals, 66, true) → ∃ vs, VRL E' vals vs ∧ CellsAt w1 b 66 0 vs := fun hr => by
    obtain ⟨arr, g1, g2, g3, vs, g4, g5⟩ := row_cells hs.rel hr hloc0
    exact ⟨vs, g4, arr, by rw [hw b hb']; exact g1, by rw [← g4.length]; exact g3, g5⟩
  -- slots that were there
  have keep : ∀ {sl : List V2} {sv : Value} {c bo : Nat}, SlotsIs own w sl sv c → (sl ≠ [] → ∀ p ∈ l, p.b ≠ c) → SlotsIs own' w1 sl sv c := fun h hne => h.keep .inl fun h0 ho => (hw _ (.inl ho)).trans (hfr _ (hsz _ ho) (hne h0))
  have farL : ∀ {c : Nat}, own c → (∀ p ∈ l, p.b ≠ c) → ∀ r base, E'.loc r ≠ some (c, base) := fun {c} ho hne r base e => by
    rcases hnew r c base e with h1 | ⟨p, hp, h2⟩
    · have := hsz c ho; omega
    · exact hne p hp h2
  rcases hEnd with ⟨rfl, hrows⟩ | ⟨L2, U2, U', r, q, k, sl, old, cell, e1, rfl, e3, e4, e5, e6, e7⟩
  · -- nothing has changed
    rcases s6 with ⟨h7, rfl⟩ | ⟨bo, base, o, rs, sb, m1, rfl, m3, m4, m5⟩
    · obtain ⟨vs, v1, v2⟩ := store (hrows 0 _ rfl)
      cases v1 with
      | cons a1 v1 => cases v1 with
        | cons a2 v1 => cases v1 with
          | cons a3 v1 => cases v1 with
            | cons a4 v1 => cases v1 with
              | cons a5 v1 =>
                cases v1
                cases a1; cases a2
                have := mt_slice a3
                subst this
                cases a4; cases a5
                exact ⟨L, U, _, nv, mv, s1, s2, hnm, s4, hb', v2, .inl ⟨h7, rfl⟩⟩
    · obtain ⟨vs, v1, v2⟩ := store (hrows 0 _ rfl)
      have hr1 := hrows 1 _ rfl
      have hloc1 : E'.loc 1 = some (bo, base) := hs.le.loc 1 _ rfl
      have hpl : ∀ {c : Nat}, c ≠ b ∧ c ≠ bo → ∀ p ∈ ([⟨b, 0, 66, sto1 nv mv L U 1 (rs.length + 1)⟩, ⟨bo, base, 115, objsP (o :: rs)⟩] : List Lay), p.b ≠ c := fun hc p hp => by
        simp at hp
        rcases hp with rfl | rfl
        · exact hc.1.symm
        · exact hc.2.symm
      cases v1 with
      | cons a1 v1 => cases v1 with
        | cons a2 v1 => cases v1 with
          | cons a3 v1 => cases v1 with
            | cons a4 v1 => cases v1 with
              | cons a5 v1 =>
                cases v1
                cases a1; cases a2
                cases a4; cases a5
                obtain ⟨b1, base1, vs1, l1, l2, l3⟩ := sl_is hs.rel hw hl' (Nat.succ_pos _) a3 hr1
                rw [hloc1] at l1
                cases l1
                have hlen : (o :: rs).length = d'.rows.length := by rw [← m1, List.length_map]
                have hat : ∀ i ob, d'.rows[i]? = some ob → ∃ p : Ob × Value, (o :: rs)[i]? = some p ∧ p.1 = ob := fun i ob hi => by
                  rw [← m1, List.getElem?_map] at hi
                  cases hp : (o :: rs)[i]? with
                  | none => rw [hp] at hi; cases hi
                  | some p => rw [hp] at hi; exact ⟨p, hp, by simpa using hi⟩
                refine ⟨L, U, _, nv, mv, s1, s2, hnm, s4, hb', v2, .inr ⟨bo, vs1, sb, fun e => (by rw [e] at m1; cases m1), by rw [← hlen]; exact l3, m4, ?_, fun i ob hi => ?_, fun i ob hi => ?_, fun i ob hi hne => ?_, fun i j ob pb hi hj hne hne2 he => ?_⟩⟩
                · rw [← l2.length, objsP_len, hlen]
                · obtain ⟨p, hp, rfl⟩ := hat i ob hi
                  obtain ⟨v, t1, t2⟩ := l2.at_ (objsP_0 _ i p hp).1
                  cases t2; exact t1
                · obtain ⟨p, hp, rfl⟩ := hat i ob hi
                  obtain ⟨v, t1, t2⟩ := l2.at_ (objsP_0 _ i p hp).2
                  cases t2
                  exact ⟨_, t1, keep (bo := bo) (m5.is i p hp) fun h0 => hpl (m5.far i p hp h0)⟩
                · obtain ⟨p, hp, rfl⟩ := hat i ob hi
                  exact m5.far i p hp hne
                · obtain ⟨p, hp, rfl⟩ := hat i ob hi
                  obtain ⟨p2, hp2, rfl⟩ := hat j pb hj
                  exact m5.apart i j p p2 hp hp2 hne hne2 he
  · -- an object more
    rw [s2] at e1
    obtain ⟨rfl, rfl⟩ : L = L2 ∧ U = U2 := by simpa using e1
    rw [hnl] at e4
    obtain ⟨vs, v1, v2⟩ := store e4
    -- old objects
    obtain ⟨rs, sb, hrs, hold, hsl⟩ : ∃ (rs : List (Ob × Value)) (sb : Nat → Nat), rs.map (·.1) = d.rows ∧ old = objsP rs ∧ ∀ i p, rs[i]? = some p → SlotsIs own w p.1.2 p.2 (sb i) ∧ (p.1.2 ≠ [] → (∀ x ∈ l, x.b ≠ sb i) ∧ ∀ j p2, rs[j]? = some p2 → p2.1.2 ≠ [] → sb i = sb j → i = j) := by
      rcases s6 with ⟨h7, rfl⟩ | ⟨bo, base, o, rs, sb, m1, rfl, m3, m4, m5⟩
      · refine ⟨[], fun _ => 0, by rw [h7]; rfl, ?_, fun i p hp => by simp at hp⟩
        rcases e6 with ⟨_, h⟩ | ⟨x, hx, _⟩
        · exact h
        · simp at hx
      · refine ⟨o :: rs, sb, m1, ?_, fun i p hp => ⟨m5.is i p hp, fun h0 => ⟨fun x hx => ?_, fun j p2 hp2 h2 he => m5.apart i j p p2 hp hp2 h0 h2 he⟩⟩⟩
        · rcases e6 with ⟨h, _⟩ | ⟨x, hx, h⟩
          · simp at h
          · simp at hx; subst hx; exact h
        · have := m5.far i p hp h0
          simp at hx
          rcases hx with rfl | rfl
          · exact this.1.symm
          · exact this.2.symm
    subst hold
    have hlen : rs.length = d.rows.length := by rw [← hrs, List.length_map]
    have hat : ∀ i ob, (d.rows ++ [(k, sl)])[i]? = some ob → (∃ p, rs[i]? = some p ∧ p.1 = ob) ∨ (i = rs.length ∧ ob = (k, sl) ∧ rs[i]? = none) := fun i ob hi => by
      rcases Nat.lt_or_ge i d.rows.length with h | h
      · rw [List.getElem?_append_left h, ← hrs, List.getElem?_map] at hi
        cases hp : rs[i]? with
        | none => rw [hp] at hi; cases hi
        | some p => rw [hp] at hi; exact .inl ⟨p, rfl, by simpa using hi⟩
      · rw [List.getElem?_append_right h] at hi
        have h0 : i - d.rows.length = 0 := by
          rcases Nat.eq_zero_or_pos (i - d.rows.length) with h | h
          · exact h
          · rw [List.getElem?_eq_none (by simp only [List.length_cons, List.length_nil]; omega)] at hi; cases hi
        rw [h0] at hi
        exact .inr ⟨by omega, by simpa using hi.symm, List.getElem?_eq_none (by omega)⟩
    cases v1 with
    | cons a1 v1 => cases v1 with
      | cons a2 v1 => cases v1 with
        | cons a3 v1 => cases v1 with
          | cons a4 v1 => cases v1 with
            | cons a5 v1 =>
              cases v1
              cases a1; cases a2
              cases a4; cases a5
              obtain ⟨b1, base1, vs1, l1, l2, l3⟩ := sl_is hs.rel hw hl' (Nat.succ_pos _) a3 e5
              have hb1 : b1 ≠ b := fun e => by
                subst e
                obtain ⟨arr, g1, _⟩ := row_cells hs.rel e5 l1
                obtain ⟨arr2, g2, _⟩ := row_cells hs.rel e4 hloc0
                rw [g1] at g2
                simp at g2
              -- the new object's slots
              obtain ⟨bq, hq1, hq2⟩ : ∃ bq, (∀ sv, VR E' cell sv → SlotsIs own' w1 sl sv bq) ∧ (sl ≠ [] → bq ≠ b ∧ bq ≠ b1 ∧ ∃ r base, E'.loc r = some (bq, base)) := by
                rcases e7 with ⟨h0, rfl, h2⟩ | ⟨rfl, hnc⟩
                · have hne : 0 < sl.length := by cases sl with | nil => exact absurd rfl h0 | cons => simp
                  cases hq : E'.loc q with
                  | none =>
                    refine ⟨b + b1 + 1, fun sv hv => ?_, fun _ => ?_⟩
                    · cases hv with | sl hloc => rw [hq] at hloc; cases hloc
                    · exfalso
                      obtain ⟨v, _, t2⟩ := l2.at_ (i := (objsP rs).length + 1) (a := .sl q 0 sl.length 2 false) (by rw [List.getElem?_append_right (by omega), show (objsP rs).length + 1 - (objsP rs).length = 1 by omega]; rfl)
                      cases t2 with | sl hloc => rw [hq] at hloc; cases hloc
                  | some p =>
                    obtain ⟨bq, baseq⟩ := p
                    refine ⟨bq, fun sv hv => ?_, fun _ => ?_⟩
                    · obtain ⟨b2, base2, vs2, t1, t2, t3⟩ := sl_is hs.rel hw hl' hne hv h2
                      rw [hq] at t1
                      cases t1
                      rw [cellsA_vals t2] at t3
                      exact .inr ⟨h0, t3⟩
                    · obtain ⟨arr, g1, _⟩ := row_cells hs.rel h2 hq
                      refine ⟨fun e => ?_, fun e => ?_, q, baseq, hq⟩
                      · subst e
                        obtain ⟨arr2, g2, _⟩ := row_cells hs.rel e4 hloc0
                        rw [g1] at g2; simp at g2
                      · subst e
                        obtain ⟨arr2, g2, _⟩ := row_cells hs.rel e5 l1
                        rw [g1] at g2; simp at g2
                · exact ⟨0, fun sv hv => .inl ⟨rfl, no_slice hnc hv⟩, fun h => absurd rfl h⟩
              let sb' : Nat → Nat := fun i => if i < rs.length then sb i else bq
              have sb_old : ∀ {i : Nat} {p : Ob × Value}, rs[i]? = some p → sb' i = sb i := fun {i p} hp => by
                have : i < rs.length := by
                  rcases Nat.lt_or_ge i rs.length with h | h
                  · exact h
                  · rw [List.getElem?_eq_none h] at hp; cases hp
                exact if_pos this
              have sb_new : sb' rs.length = bq := if_neg (by omega)
              have ownS : ∀ {i : Nat} {p : Ob × Value}, rs[i]? = some p → p.1.2 ≠ [] → own (sb i) := fun {i p} hp h0 => by
                rcases (hsl i p hp).1 with ⟨h, _⟩ | ⟨_, _, _, _, _, h, _⟩
                · exact absurd h h0
                · exact h
              have farB : ∀ {i : Nat} {p : Ob × Value}, rs[i]? = some p → p.1.2 ≠ [] → ∀ r base, E'.loc r ≠ some (sb i, base) := fun hp h0 => farL (ownS hp h0) ((hsl _ _ hp).2 h0).1
              refine ⟨L, U', _, nv, mv, rfl, rfl, hnm, ?_, hb', v2, .inr ⟨b1, vs1, sb', by simp, ?_, hb1, ?_, fun i ob hi => ?_, fun i ob hi => ?_, fun i ob hi hne => ?_, fun i j ob pb hi hj hne hne2 he => ?_⟩⟩
              · have : (d.rows ++ [(k, sl)]).length = d.rows.length + 1 := by simp
                rw [this]; exact e3
              · have : (d.rows ++ [(k, sl)]).length = d.rows.length + 1 := by simp
                rw [this]; exact l3
              · rw [← l2.length, List.length_append, objsP_len, hlen]
                simp [rest8]; omega
              · rcases hat i ob hi with ⟨p, hp, rfl⟩ | ⟨rfl, rfl, _⟩
                · obtain ⟨c1, _⟩ := objsP_0 _ i p hp
                  have hlt : 10 * i < (objsP rs).length := by
                    rcases Nat.lt_or_ge (10 * i) (objsP rs).length with h | h
                    · exact h
                    · rw [List.getElem?_eq_none h] at c1; cases c1
                  obtain ⟨v, t1, t2⟩ := l2.at_ (i := 10 * i) (by rw [List.getElem?_append_left hlt]; exact c1)
                  cases t2; exact t1
                · obtain ⟨v, t1, t2⟩ := l2.at_ (i := 10 * rs.length) (a := .int .i64 k) (by rw [← objsP_len, List.getElem?_append_right (Nat.le_refl _), Nat.sub_self]; rfl)
                  cases t2; exact t1
              · rcases hat i ob hi with ⟨p, hp, rfl⟩ | ⟨rfl, rfl, _⟩
                · obtain ⟨_, c1⟩ := objsP_0 _ i p hp
                  have hlt : 10 * i + 1 < (objsP rs).length := by
                    rcases Nat.lt_or_ge (10 * i + 1) (objsP rs).length with h | h
                    · exact h
                    · rw [List.getElem?_eq_none h] at c1; cases c1
                  obtain ⟨v, t1, t2⟩ := l2.at_ (i := 10 * i + 1) (by rw [List.getElem?_append_left hlt]; exact c1)
                  cases t2
                  rw [sb_old hp]
                  exact ⟨_, t1, keep (bo := b1) (hsl i p hp).1 fun h0 => ((hsl i p hp).2 h0).1⟩
                · obtain ⟨v, t1, t2⟩ := l2.at_ (i := 10 * rs.length + 1) (a := cell) (by rw [← objsP_len, List.getElem?_append_right (by omega), show (objsP rs).length + 1 - (objsP rs).length = 1 by omega]; rfl)
                  rw [sb_new]
                  exact ⟨v, t1, hq1 v t2⟩
              · rcases hat i ob hi with ⟨p, hp, rfl⟩ | ⟨rfl, rfl, _⟩
                · rw [sb_old hp]
                  exact ⟨fun e => farB hp hne 0 0 (by rw [e]; exact hloc0), fun e => farB hp hne r base1 (by rw [e]; exact l1)⟩
                · rw [sb_new]
                  exact ⟨(hq2 hne).1, (hq2 hne).2.1⟩
              · rcases hat i ob hi with ⟨p, hp, rfl⟩ | ⟨rfl, rfl, _⟩ <;> rcases hat j pb hj with ⟨p2, hp2, rfl⟩ | ⟨rfl, rfl, _⟩
                · rw [sb_old hp, sb_old hp2] at he
                  exact ((hsl i p hp).2 hne).2 j p2 hp2 hne2 he
                · rw [sb_old hp, sb_new] at he
                  obtain ⟨r2, base2, h2⟩ := (hq2 hne2).2.2
                  exact absurd (by rw [he]; exact h2) (farB hp hne r2 base2)
                · rw [sb_old hp2, sb_new] at he
                  obtain ⟨r2, base2, h2⟩ := (hq2 hne).2.2
                  exact absurd (by rw [← he]; exact h2) (farB hp2 hne2 r2 base2)
                · rfl
end Go.Am.Sto
