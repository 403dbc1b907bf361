/- The second meaning's memory against the model's: what holds between them, and how it is kept. -/
import Derived.Test.YtaiddjgpnpbckaaGreatDoorAmRel
set_option autoImplicit false
namespace Go.Am

structure Wf (s : St) : Prop where
  fresh : ∀ r, s.next ≤ r → s.get r = none
  root : ∀ r o, s.get r = some (.row o) → ∃ q, s.get o.root = some (.row q) ∧ q.root = o.root ∧ o.ep ≤ q.fep ∧ (valid s o = true → o.pos + o.vals.length ≤ q.ext)
  solo : ∀ r o, s.get r = some (.row o) → o.solo = true → o.root = r ∧ ∀ r2 o2, s.get r2 = some (.row o2) → o2.root = r → r2 = r

structure Rel (E : Env) (s : St) (w : World) : Prop where
  wf : Wf s
  lt : ∀ r b base, E.loc r = some (b, base) → r < s.next ∧ b < w.heap.size
  obj : ∀ r p, E.loc r = some p → ∃ o, s.get r = some o
  z : ∀ b o v, E.z b o = some v → w.cell? ⟨b, o, none⟩ = some v
  zap : ∀ b o v r base, E.z b o = some v → E.loc r ≠ some (b, base)
  row : ∀ r o b base, s.get r = some (.row o) → E.loc r = some (b, base) → ∃ c ty fz, w.heap[b]? = some (.cells c ty fz) ∧ c.size = E.bsz b ∧ base + o.vals.length ≤ c.size ∧
    (valid s o = true → (fz = (0, 0) ∧ ty = o.ty) ∧ ∃ vs, VRL E o.vals vs ∧ ∀ i v, vs[i]? = some v → c[base + i]? = some v)
  mapo : ∀ r es b base, s.get r = some (.mapo es) → E.loc r = some (b, base) → ∃ ents clock, w.heap[b]? = some (.map ents clock) ∧
    VRL E (es.map (·.1)) (ents.toList.map (·.key)) ∧ VRL E (es.map (·.2)) (ents.toList.map (·.val))
  iter : ∀ r x n b base, s.get r = some (.siter x n) → E.loc r ≠ some (b, base)
  coh : ∀ r1 r2 b base1 base2, E.loc r1 = some (b, base1) → E.loc r2 = some (b, base2) → r1 = r2 ∨
    ∃ o1 o2, s.get r1 = some (.row o1) ∧ s.get r2 = some (.row o2) ∧ o1.root = o2.root ∧ base1 + o2.pos = base2 + o1.pos
  b0 : ∀ r o b base, s.get r = some (.row o) → E.loc r = some (b, base) → o.root = r → base = 0
  hid : ∀ n d b, s.get n = some (.hid d) → E.hb n = some b → ∀ w1 : World, (∀ c, E.own n c → w1.heap[c]? = w.heap[c]?) → E.H d b (E.own n) w1
  own : ∀ n c, E.own n c → c < w.heap.size ∧ (∀ r base, E.loc r ≠ some (c, base)) ∧ (∀ o, E.z c o = none) ∧ ∀ m, E.own m c → m = n
  hlt : ∀ n b, E.hb n = some b → n < s.next ∧ ∃ d, s.get n = some (.hid d)

/-- From one state of both to another. -/
structure Step (E : Env) (s : St) (w : World) (E' : Env) (s' : St) (w' : World) : Prop where
  le : E.le E'
  old : ∀ r, r < s.next → E'.loc r = E.loc r
  new : ∀ r b base, E'.loc r = some (b, base) → w.heap.size ≤ b ∨ ∃ r0 base0, E.loc r0 = some (b, base0)
  rel : Rel E' s' w'
  un : ∀ r, r < s.next → E.loc r = none → (∀ o, s.get r = some (.row o) → o.solo = true) → (∀ d, s.get r ≠ some (.hid d)) → s'.get r = s.get r
  next : s.next ≤ s'.next
  fr : ∀ b, b < w.heap.size → (∀ r base, E.loc r ≠ some (b, base)) → (∀ n, ¬ E.own n b) → w'.heap[b]? = w.heap[b]?
  os : w'.os = w.os
  tape : w'.tape = w.tape
  output : w'.output = w.output
  size : w.heap.size ≤ w'.heap.size
  owns : ∀ n c, E'.own n c → E.own n c ∨ w.heap.size ≤ c
  hids : ∀ n d, s.get n = some (.hid d) → ∃ d', s'.get n = some (.hid d')

theorem Step.refl {E : Env} {s : St} {w : World} (h : Rel E s w) : Step E s w E s w :=
  ⟨.refl E, fun _ _ => rfl, fun r _ base e => .inr ⟨r, base, e⟩, h, fun _ _ _ _ _ => rfl, Nat.le_refl _, fun _ _ _ _ => rfl, rfl, rfl, rfl, Nat.le_refl _, fun _ _ e => .inl e, fun _ d e => ⟨d, e⟩⟩

theorem Step.trans {E1 E2 E3 : Env} {s1 s2 s3 : St} {w1 w2 w3 : World} (h : Step E1 s1 w1 E2 s2 w2) (k : Step E2 s2 w2 E3 s3 w3) : Step E1 s1 w1 E3 s3 w3 where
  le := h.le.trans k.le
  old r hr := (k.old r (Nat.lt_of_lt_of_le hr h.next)).trans (h.old r hr)
  new r b base e := by
    rcases k.new r b base e with h1 | ⟨r0, base0, h1⟩
    · exact .inl (Nat.le_trans h.size h1)
    · exact h.new r0 b base0 h1
  rel := k.rel
  un r hr hn hs hd := (k.un r (Nat.lt_of_lt_of_le hr h.next) ((h.old r hr).trans hn) (by rw [h.un r hr hn hs hd]; exact hs) (by rw [h.un r hr hn hs hd]; exact hd)).trans (h.un r hr hn hs hd)
  next := Nat.le_trans h.next k.next
  fr b hb hn ho := by
    refine (k.fr b (Nat.lt_of_lt_of_le hb h.size) ?_ ?_).trans (h.fr b hb hn ho)
    · intro r base e
      rcases h.new r b base e with h1 | ⟨r0, base0, h1⟩
      · omega
      · exact hn r0 base0 h1
    · intro n e
      rcases h.owns n b e with h1 | h1
      · exact ho n h1
      · omega
  os := k.os.trans h.os
  tape := k.tape.trans h.tape
  output := k.output.trans h.output
  size := Nat.le_trans h.size k.size
  owns n c e := by
    rcases k.owns n c e with h1 | h1
    · exact h.owns n c h1
    · exact .inr (Nat.le_trans h.size h1)
  hids n d e := by obtain ⟨d1, e1⟩ := h.hids n d e; exact k.hids n d1 e1

theorem cell_of_heap {w w' : World} (h : w'.heap = w.heap) (a : Addr) : w'.cell? a = w.cell? a := by simp [World.cell?, h]

/-- A world with the same memory. -/
theorem Rel.same {E : Env} {s : St} {w w' : World} (h : Rel E s w) (e' : w'.heap = w.heap) : Rel E s w' where
  wf := h.wf
  lt := by rw [e']; exact h.lt
  obj := h.obj
  z b o v hz := by rw [cell_of_heap e']; exact h.z b o v hz
  zap := h.zap
  row := by rw [e']; exact h.row
  mapo := by rw [e']; exact h.mapo
  iter := h.iter
  coh := h.coh
  b0 := h.b0
  hid n d b e eb w1 hw := h.hid n d b e eb w1 fun c hc => (hw c hc).trans (by rw [e'])
  own := by rw [e']; exact h.own
  hlt := h.hlt

theorem Step.same {E : Env} {s : St} {w w' : World} (h : Rel E s w) (e : w'.heap = w.heap) (h1 : w'.os = w.os) (h2 : w'.tape = w.tape) (h3 : w'.output = w.output) : Step E s w E s w' :=
  ⟨.refl E, fun _ _ => rfl, fun r _ base e => .inr ⟨r, base, e⟩, h.same e, fun _ _ _ _ _ => rfl, Nat.le_refl _, fun _ _ _ _ => by rw [e], h1, h2, h3, by rw [e]; exact Nat.le_refl _, fun _ _ e => .inl e, fun _ d e => ⟨d, e⟩⟩

theorem Step.drew {E : Env} {s : St} {w : World} (h : Rel E s w) : Step E s w E s { w with drawn := w.drawn + 1 } := Step.same h rfl rfl rfl rfl

section
variable {s : St} {o : AObj}
theorem get_push_old {r : Nat} (h : r < s.next) : (s.push o).get r = s.get r := by rw [St.get_push, if_neg (by omega)]
theorem get_push_new : (s.push o).get s.next = some o := by rw [St.get_push, if_pos rfl]
end

theorem Wf.lt {s : St} (h : Wf s) {r : Nat} {o : AObj} (e : s.get r = some o) : r < s.next := by
  rcases Nat.lt_or_ge r s.next with h1 | h1
  · exact h1
  · rw [h.fresh r h1] at e; cases e

theorem valid_congr {s s' : St} {o : Row} (h : s'.get o.root = s.get o.root) : valid s' o = valid s o := by unfold valid; rw [h]

theorem Wf.valid_push {s : St} (h : Wf s) {r : Nat} {o : Row} (e : s.get r = some (.row o)) (x : AObj) : valid (s.push x) o = valid s o := by
  obtain ⟨q, hq, _⟩ := h.root r o e
  exact valid_congr (get_push_old (h.lt hq))

theorem Wf.push_row {s : St} (h : Wf s) (ty : TypeId) (vals : List AV) : Wf (pushRow s ty vals) where
  fresh r hr := by
    have hr' : s.next + 1 ≤ r := hr
    unfold pushRow; rw [St.get_push, if_neg (by omega)]; exact h.fresh r (by omega)
  root r o e := by
    by_cases hr : r = s.next
    · subst hr
      unfold pushRow at e ⊢
      rw [get_push_new] at e
      simp only [newRow, Option.some.injEq, AObj.row.injEq] at e
      subst e
      exact ⟨_, get_push_new, rfl, Nat.le_refl _, fun _ => by simp⟩
    · unfold pushRow at e ⊢
      have hlt : r < s.next := by
        rcases Nat.lt_or_ge r s.next with h1 | h1
        · exact h1
        · rw [St.get_push, if_neg (by omega), h.fresh r h1] at e; cases e
      rw [get_push_old hlt] at e
      obtain ⟨q, hq, h1, h2, h3⟩ := h.root r o e
      exact ⟨q, by rw [get_push_old (h.lt hq)]; exact hq, h1, h2, fun hv => h3 (by rw [h.valid_push e] at hv; exact hv)⟩
  solo r o e hs := by
    unfold pushRow at e ⊢
    by_cases hr : r = s.next
    · subst hr
      rw [get_push_new] at e
      simp only [newRow, Option.some.injEq, AObj.row.injEq] at e
      subst e
      refine ⟨rfl, fun r2 o2 e2 h2 => ?_⟩
      by_cases hr2 : r2 = s.next
      · exact hr2
      · have hlt : r2 < s.next := by
          rcases Nat.lt_or_ge r2 s.next with h1 | h1
          · exact h1
          · rw [St.get_push, if_neg (by omega), h.fresh r2 h1] at e2; cases e2
        rw [get_push_old hlt] at e2
        obtain ⟨q, hq, _⟩ := h.root r2 o2 e2
        have := h.lt hq
        omega
    · have hlt : r < s.next := by
        rcases Nat.lt_or_ge r s.next with h1 | h1
        · exact h1
        · rw [St.get_push, if_neg (by omega), h.fresh r h1] at e; cases e
      rw [get_push_old hlt] at e
      obtain ⟨h1, h2⟩ := h.solo r o e hs
      refine ⟨h1, fun r2 o2 e2 h3 => ?_⟩
      by_cases hr2 : r2 = s.next
      · subst hr2
        rw [get_push_new] at e2
        simp only [newRow, Option.some.injEq, AObj.row.injEq] at e2
        subst e2
        simp at h3; omega
      · have hlt2 : r2 < s.next := by
          rcases Nat.lt_or_ge r2 s.next with h1 | h1
          · exact h1
          · rw [St.get_push, if_neg (by omega), h.fresh r2 h1] at e2; cases e2
        rw [get_push_old hlt2] at e2
        exact h2 r2 o2 e2 h3

theorem Wf.push_other {s : St} (h : Wf s) (x : AObj) (hx : ∀ o, x ≠ .row o) : Wf (s.push x) where
  fresh r hr := by
    have hr' : s.next + 1 ≤ r := hr
    rw [St.get_push, if_neg (by omega)]; exact h.fresh r (by omega)
  root r o e := by
    rw [St.get_push] at e
    split at e
    · cases e; exact absurd rfl (hx o)
    · obtain ⟨q, hq, h1, h2, h3⟩ := h.root r o e
      exact ⟨q, by rw [get_push_old (h.lt hq)]; exact hq, h1, h2, fun hv => h3 (by rw [h.valid_push e] at hv; exact hv)⟩
  solo r o e hs := by
    rw [St.get_push] at e
    split at e
    · cases e; exact absurd rfl (hx o)
    · obtain ⟨h1, h2⟩ := h.solo r o e hs
      refine ⟨h1, fun r2 o2 e2 h3 => ?_⟩
      rw [St.get_push] at e2
      split at e2
      · cases e2; exact absurd rfl (hx o2)
      · exact h2 r2 o2 e2 h3

/-- An object more on one side alone. -/
theorem Rel.push {E : Env} {s : St} {w : World} (h : Rel E s w) (x : AObj) (hw : Wf (s.push x)) : Rel E (s.push x) w where
  wf := hw
  lt r b base e := ⟨Nat.lt_succ_of_lt (h.lt r b base e).1, (h.lt r b base e).2⟩
  obj r p e := by obtain ⟨o, ho⟩ := h.obj r p e; exact ⟨o, by rw [get_push_old (h.wf.lt ho)]; exact ho⟩
  z := h.z
  zap := h.zap
  row r o b base e el := by
    have hlt := (h.lt r b base el).1
    rw [get_push_old hlt] at e
    rw [h.wf.valid_push e]
    exact h.row r o b base e el
  mapo r es b base e el := by
    rw [get_push_old (h.lt r b base el).1] at e
    exact h.mapo r es b base e el
  iter r x n b base e el := by
    rw [get_push_old (h.lt r b base el).1] at e
    exact h.iter r x n b base e el
  coh r1 r2 b b1 b2 e1 e2 := by
    rw [get_push_old (h.lt r1 b b1 e1).1, get_push_old (h.lt r2 b b2 e2).1]
    exact h.coh r1 r2 b b1 b2 e1 e2
  b0 r o b base e el hq := by
    rw [get_push_old (h.lt r b base el).1] at e
    exact h.b0 r o b base e el hq
  hid n d b e eb := by
    rw [get_push_old (h.hlt n b eb).1] at e
    exact h.hid n d b e eb
  own := h.own
  hlt n b eb := by
    obtain ⟨h1, d, h2⟩ := h.hlt n b eb
    exact ⟨Nat.lt_succ_of_lt h1, d, by rw [get_push_old h1]; exact h2⟩

theorem Step.push {E : Env} {s : St} {w : World} (h : Rel E s w) (x : AObj) (hw : Wf (s.push x)) : Step E s w E (s.push x) w :=
  ⟨.refl E, fun _ _ => rfl, fun r _ base e => .inr ⟨r, base, e⟩, h.push x hw, fun _ hr _ _ _ => get_push_old hr, Nat.le_succ _, fun _ _ _ _ => rfl, rfl, rfl, rfl, Nat.le_refl _, fun _ _ e => .inl e, fun n d e => ⟨d, by rw [get_push_old (h.wf.lt e)]; exact e⟩⟩

def Env.add (E : Env) (r b base size : Nat) : Env :=
  { E with loc := fun q => if q = r then some (b, base) else E.loc q, bsz := fun c => if c = b then size else E.bsz c }

theorem Env.add_le {E : Env} {r b base size : Nat} (hr : E.loc r = none) (hb : ∀ r0 base0, E.loc r0 = some (b, base0) → E.bsz b = size) : E.le (E.add r b base size) where
  loc q p e := by
    simp only [Env.add]
    by_cases hq : q = r
    · subst hq; rw [hr] at e; cases e
    · rw [if_neg hq]; exact e
  z _ _ _ e := e
  bsz q b' base' e := by
    simp only [Env.add]
    by_cases hb' : b' = b
    · subst hb'; rw [if_pos rfl]; exact (hb q base' e).symm
    · rw [if_neg hb']
  hb _ _ e := e
  H := rfl

theorem Env.add_loc {E : Env} {r b base size q : Nat} {p : Nat × Nat} (e : (E.add r b base size).loc q = some p) : (q = r ∧ p = (b, base)) ∨ (q ≠ r ∧ E.loc q = some p) := by
  simp only [Env.add] at e
  by_cases hq : q = r
  · rw [if_pos hq] at e; cases e; exact .inl ⟨hq, rfl⟩
  · rw [if_neg hq] at e; exact .inr ⟨hq, e⟩

theorem Env.add_self (E : Env) (r b base size : Nat) : (E.add r b base size).loc r = some (b, base) := by simp [Env.add]
theorem Env.add_ne {E : Env} {r b base size q : Nat} (h : q ≠ r) : (E.add r b base size).loc q = E.loc q := by simp [Env.add, h]

/-- A row that is there on one side comes to lie in a new block. -/
theorem Rel.map_new {E : Env} {s : St} {w : World} (h : Rel E s w) {r : Nat} {o : Row} (hr : s.get r = some (.row o)) (hn : E.loc r = none) {vs : List Value} (hv : VRL E o.vals vs)
    (c : Array Value) (hc : ∀ (i : Nat) (v : Value), vs[i]? = some v → c[i]? = some v) (hl : o.vals.length ≤ c.size) :
    E.le (E.add r w.heap.size 0 c.size) ∧ Rel (E.add r w.heap.size 0 c.size) s (w.alloc (.cells c o.ty)) := by
  have hfresh : ∀ r0 base0, E.loc r0 ≠ some (w.heap.size, base0) := fun r0 base0 e => by have := (h.lt r0 _ _ e).2; omega
  have hle : E.le (E.add r w.heap.size 0 c.size) := Env.add_le hn fun r0 base0 e => absurd e (hfresh r0 base0)
  have hold : ∀ b, b < w.heap.size → (w.alloc (.cells c o.ty)).heap[b]? = w.heap[b]? := fun b hb => heap_alloc_old w _ b hb
  refine ⟨hle, h.wf, ?_, ?_, ?_, ?_, ?_, ?_, ?_, ?_, ?_, fun n d b e eb w1 hw => h.hid n d b e eb w1 fun c hc => (hw c hc).trans (hold c (h.own n c hc).1), fun n c hc => ?_, h.hlt⟩
  rotate_right
  · obtain ⟨o1, o2, o3⟩ := h.own n c hc
    refine ⟨by simp; omega, fun q base e => ?_, o3⟩
    rcases Env.add_loc e with ⟨_, h1⟩ | ⟨_, h1⟩
    · cases h1; omega
    · exact o2 q base h1
  · intro q b base e
    rcases Env.add_loc e with ⟨rfl, h1⟩ | ⟨_, h1⟩
    · cases h1
      exact ⟨h.wf.lt hr, by simp⟩
    · have := h.lt q b base h1
      exact ⟨this.1, by simp; omega⟩
  · intro q p e
    rcases Env.add_loc e with ⟨rfl, _⟩ | ⟨_, h1⟩
    · exact ⟨_, hr⟩
    · exact h.obj q p h1
  · intro b i v e
    have h1 := h.z b i v e
    have hb := World.block_lt_of_cell? w _ h1
    exact (World.cell?_of_block (hold b hb)).trans h1
  · intro b i v q base e e2
    rcases Env.add_loc e2 with ⟨_, h1⟩ | ⟨_, h1⟩
    · cases h1
      have := World.block_lt_of_cell? w _ (h.z _ i v e)
      simp at this
    · exact h.zap b i v q base e h1
  · intro q o' b base e el
    rcases Env.add_loc el with ⟨rfl, h1⟩ | ⟨hq, h1⟩
    · cases h1
      rw [hr] at e
      cases e
      refine ⟨c, o.ty, (0, 0), heap_alloc_new w _, by simp [Env.add], by simpa using hl, fun _ => ⟨⟨rfl, rfl⟩, vs, VRL.mono hle hv, by simpa using hc⟩⟩
    · obtain ⟨c', ty', fz, g1, g2, g3, g4⟩ := h.row q o' b base e h1
      refine ⟨c', ty', fz, by rw [hold b (h.lt q b base h1).2]; exact g1, ?_, g3, fun hv' => ?_⟩
      · rw [hle.bsz q b base h1]; exact g2
      · obtain ⟨hz, vs', k1, k2⟩ := g4 hv'
        exact ⟨hz, vs', VRL.mono hle k1, k2⟩
  · intro q es b base e el
    rcases Env.add_loc el with ⟨rfl, h1⟩ | ⟨hq, h1⟩
    · rw [hr] at e; cases e
    · obtain ⟨ents, clock, g1, g2, g3⟩ := h.mapo q es b base e h1
      exact ⟨ents, clock, by rw [hold b (h.lt q b base h1).2]; exact g1, VRL.mono hle g2, VRL.mono hle g3⟩
  · intro q x n b base e el
    rcases Env.add_loc el with ⟨rfl, h1⟩ | ⟨hq, h1⟩
    · rw [hr] at e; cases e
    · exact h.iter q x n b base e h1
  · intro r1 r2 b b1 b2 e1 e2
    rcases Env.add_loc e1 with ⟨rfl, h1⟩ | ⟨hq1, h1⟩ <;> rcases Env.add_loc e2 with ⟨rfl, h2⟩ | ⟨hq2, h2⟩
    · exact .inl rfl
    · cases h1; exact absurd h2 (hfresh r2 b2)
    · cases h2; exact absurd h1 (hfresh r1 b1)
    · exact h.coh r1 r2 b b1 b2 h1 h2
  · intro q o' b base e el hq
    rcases Env.add_loc el with ⟨_, h1⟩ | ⟨_, h1⟩
    · cases h1; rfl
    · exact h.b0 q o' b base e h1 hq

theorem Rel.loc_fresh {E : Env} {s : St} {w : World} (h : Rel E s w) : E.loc s.next = none := by
  cases e : E.loc s.next with
  | none => rfl
  | some p => have := (h.lt s.next p.1 p.2 e).1; omega

/-- A new row on both sides. -/
theorem Step.alloc {E : Env} {s : St} {w : World} (h : Rel E s w) {vals : List AV} {vs : List Value} (hv : VRL E vals vs)
    (c : Array Value) (ty : TypeId) (hc : ∀ (i : Nat) (v : Value), vs[i]? = some v → c[i]? = some v) (hl : vals.length ≤ c.size) :
    Step E s w (E.add s.next w.heap.size 0 c.size) (pushRow s ty vals) (w.alloc (.cells c ty)) := by
  have h1 := h.push (newRow s ty vals) (h.wf.push_row ty vals)
  obtain ⟨hle, h2⟩ := h1.map_new (r := s.next) (o := { vals := vals, root := s.next, pos := 0, ep := 0, fep := 0, ext := vals.length, solo := true, ty := ty }) get_push_new h.loc_fresh hv c hc hl
  refine ⟨hle, fun r hr => Env.add_ne (by omega), ?_, h2, fun r hr _ _ _ => get_push_old hr, Nat.le_succ _, fun b hb _ _ => heap_alloc_old w _ b hb, rfl, rfl, rfl, by simp, fun _ _ e => .inl e, fun n d e => ⟨d, by unfold pushRow; rw [get_push_old (h.wf.lt e)]; exact e⟩⟩
  intro r b base e
  rcases Env.add_loc e with ⟨_, h3⟩ | ⟨_, h3⟩
  · cases h3; exact .inl (Nat.le_refl _)
  · exact .inr ⟨r, base, h3⟩

theorem VR.newPtr (E : Env) (r b size : Nat) : VR (E.add r b 0 size) (.ptr r 0) (.pointer (some ⟨b, 0, none⟩)) := VR.ptr (base := 0) 0 (Env.add_self E r b 0 size)

theorem rowAt_eq {s : St} {r : Nat} {o : Row} (h : rowAt s r = some o) : s.get r = some (.row o) ∧ valid s o = true := by
  unfold rowAt at h
  split at h
  · rename_i o' ho
    cases hv : valid s o' with
    | true => rw [hv] at h; simp at h; subst h; exact ⟨ho, hv⟩
    | false => rw [hv] at h; simp at h
  · cases h

/-- What stands where a pointer points. -/
theorem Rel.cells {E : Env} {s : St} {w : World} (h : Rel E s w) {a : AV} {n : Nat} {l : List AV} (hl : cellsAt n a s = some l) {v : Value} (hv : VR E a v) :
    ∃ (b off : Nat) (vs : List Value), v = .pointer (some ⟨b, off, none⟩) ∧ VRL E l vs ∧ l.length = n ∧ ∀ (i : Nat) (u : Value), vs[i]? = some u → w.cell? ⟨b, off + i, none⟩ = some u := by
  unfold cellsAt at hl
  cases hv with
  | ptr off hloc =>
    rename_i r b base
    simp only at hl
    split at hl
    · rename_i o ho
      obtain ⟨ho1, ho2⟩ := rowAt_eq ho
      obtain ⟨c, ty, fz, g1, g2, g3, g4⟩ := h.row r o b base ho1 hloc
      obtain ⟨_, vs, k1, k2⟩ := g4 ho2
      have hlen := cutN_len hl
      obtain ⟨e1, e2⟩ := takeN_eq hl
      refine ⟨b, base + off, (vs.drop off).take n, rfl, ?_, hlen, fun i u hu => ?_⟩
      · rw [e1]; exact (k1.drop off).take n
      · rw [List.getElem?_take] at hu
        split at hu
        · rw [List.getElem?_drop] at hu
          have := k2 _ u hu
          rw [World.cell?, g1]
          simpa [Nat.add_assoc] using this
        · cases hu
    · cases hl
  | ptrL off hcs hz =>
    rename_i cs vs b base
    simp only at hl
    obtain ⟨e1, e2⟩ := takeN_eq hl
    refine ⟨b, base + off, (vs.drop off).take n, rfl, ?_, cutN_len hl, fun i u hu => ?_⟩
    · rw [e1]; exact (hcs.drop off).take n
    · rw [List.getElem?_take] at hu
      split at hu
      · rw [List.getElem?_drop] at hu
        have := h.z _ _ _ (hz _ u hu)
        rw [← Nat.add_assoc] at this
        exact this
      · cases hu
  | _ => simp at hl

theorem Rel.cell1 {E : Env} {s : St} {w : World} (h : Rel E s w) {a x : AV} (hl : cell1 a s = some x) {v : Value} (hv : VR E a v) :
    ∃ (b off : Nat) (u : Value), v = .pointer (some ⟨b, off, none⟩) ∧ VR E x u ∧ w.cell? ⟨b, off, none⟩ = some u := by
  unfold Am.cell1 at hl
  cases hv with
  | ptr off hloc =>
    rename_i r b base
    simp only at hl
    split at hl
    · rename_i o ho
      obtain ⟨ho1, ho2⟩ := rowAt_eq ho
      obtain ⟨c, ty, fz, g1, g2, g3, g4⟩ := h.row r o b base ho1 hloc
      obtain ⟨_, vs, k1, k2⟩ := g4 ho2
      obtain ⟨u, hu, hxu⟩ := k1.at_ hl
      refine ⟨b, base + off, u, rfl, hxu, ?_⟩
      rw [World.cell?, g1]
      simpa using k2 _ u hu
    · cases hl
  | ptrL off hcs hz =>
    rename_i cs vs b base
    obtain ⟨u, hu, hxu⟩ := hcs.at_ hl
    exact ⟨b, base + off, u, rfl, hxu, h.z _ _ _ (hz _ u hu)⟩
  | _ => simp at hl
end Go.Am
