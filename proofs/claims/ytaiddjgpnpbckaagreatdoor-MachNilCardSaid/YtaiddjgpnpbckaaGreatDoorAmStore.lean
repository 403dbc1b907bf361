/- Writes: a block is written, a row comes to lie in a block that is there. -/
import Derived.Test.YtaiddjgpnpbckaaGreatDoorAmMem
set_option autoImplicit false
namespace Go.Am

theorem setRow_heap_ne (w : World) (g k : Nat) (cs : Array Value) (h : k ≠ g) : (w.setRow g cs).heap[k]? = w.heap[k]? := by
  simp only [World.setRow, Array.getElem?_modify]
  rw [if_neg (by omega)]

theorem setRow_size (w : World) (g : Nat) (cs : Array Value) : (w.setRow g cs).heap.size = w.heap.size := by simp [World.setRow]

/-- How the rows of two states may stand to one another. -/
structure Alike (s s' : St) : Prop where
  next : s'.next = s.next
  wf : Wf s'
  row : ∀ q o2', s'.get q = some (.row o2') → ∃ o2, s.get q = some (.row o2) ∧ o2'.root = o2.root ∧ o2'.pos = o2.pos ∧ o2'.vals.length = o2.vals.length
  ty : ∀ q o2' o2, s'.get q = some (.row o2') → s.get q = some (.row o2) → o2'.ty = o2.ty
  oth : ∀ q x, (∀ o, x ≠ .row o) → s'.get q = some x → s.get q = some x
  there : ∀ q x, s.get q = some x → ∃ x', s'.get q = some x'

theorem Alike.hid {s s' : St} (h : Alike s s') {n : Nat} {d : Hid} (e : s.get n = some (.hid d)) : s'.get n = some (.hid d) := by
  obtain ⟨x, hx⟩ := h.there n _ e
  cases x with
  | row o => obtain ⟨o2, e2, _⟩ := h.row n o hx; rw [e] at e2; cases e2
  | mapo es => have := h.oth n _ (by intro o; simp) hx; rw [e] at this; cases this
  | siter a k => have := h.oth n _ (by intro o; simp) hx; rw [e] at this; cases this
  | hid d' => have := h.oth n _ (by intro o; simp) hx; rw [e] at this; cases this; exact hx

/-- A block is written anew, and what is known of the rows in it turns. -/
theorem Rel.block {E : Env} {s s' : St} {w : World} (h : Rel E s w) (ha : Alike s s') {b : Nat} {c : Array Value} {ty : TypeId} (hb : w.heap[b]? = some (.cells c ty (0, 0)))
    (hm : ∃ r base, E.loc r = some (b, base)) (c' : Array Value) (hsz : c'.size = c.size)
    (hin : ∀ q o2 base2, s'.get q = some (.row o2) → E.loc q = some (b, base2) → valid s' o2 = true → ty = o2.ty ∧ ∃ vs, VRL E o2.vals vs ∧ ∀ (i : Nat) (v : Value), vs[i]? = some v → c'[base2 + i]? = some v)
    (hout : ∀ q o2' b2 base2, s'.get q = some (.row o2') → E.loc q = some (b2, base2) → b2 ≠ b → valid s' o2' = true → ∃ o2, s.get q = some (.row o2) ∧ valid s o2 = true ∧ o2.vals = o2'.vals) :
    Rel E s' (w.setRow b c') where
  wf := ha.wf
  lt r b2 base e := by rw [ha.next, setRow_size]; exact h.lt r b2 base e
  obj r p e := by obtain ⟨o, ho⟩ := h.obj r p e; exact ha.there r o ho
  z b2 o v e := by
    obtain ⟨r, base, hr⟩ := hm
    have hne : b2 ≠ b := fun e2 => by subst e2; exact h.zap b2 o v r base e hr
    exact (World.cell?_of_block (setRow_heap_ne w b b2 c' hne)).trans (h.z b2 o v e)
  zap := h.zap
  row q o2' b2 base2 e el := by
    obtain ⟨o2, e2, h1, h2, h3⟩ := ha.row q o2' e
    obtain ⟨c2, ty2, fz2, g1, g2, g3, g4⟩ := h.row q o2 b2 base2 e2 el
    by_cases hne : b2 = b
    · subst hne
      rw [hb] at g1
      cases g1
      exact ⟨c', ty, (0, 0), setRow_heap w b2 c c' ty (0, 0) hb, hsz.trans g2, by rw [h3, hsz]; exact g3, fun hv => ⟨⟨rfl, (hin q o2' base2 e el hv).1⟩, (hin q o2' base2 e el hv).2⟩⟩
    · refine ⟨c2, ty2, fz2, by rw [setRow_heap_ne w b b2 c' hne]; exact g1, g2, by rw [h3]; exact g3, fun hv => ?_⟩
      obtain ⟨o3, e3, hv3, hvals⟩ := hout q o2' b2 base2 e el hne hv
      rw [e2] at e3
      cases e3
      rw [← hvals, ha.ty q o2' o2 e e2]
      exact g4 hv3
  mapo q es b2 base2 e el := by
    have e' := ha.oth q _ (by intro o; simp) e
    obtain ⟨ents, clock, g1, g2⟩ := h.mapo q es b2 base2 e' el
    have hne : b2 ≠ b := fun e2 => by subst e2; rw [hb] at g1; cases g1
    exact ⟨ents, clock, by rw [setRow_heap_ne w b b2 c' hne]; exact g1, g2⟩
  iter q x n b2 base2 e el := h.iter q x n b2 base2 (ha.oth q _ (by intro o; simp) e) el
  coh r1 r2 b2 b1 b3 e1 e2 := by
    rcases h.coh r1 r2 b2 b1 b3 e1 e2 with h1 | ⟨o1, o2, k1, k2, k3, k4⟩
    · exact .inl h1
    · obtain ⟨x1, hx1⟩ := ha.there r1 _ k1
      obtain ⟨x2, hx2⟩ := ha.there r2 _ k2
      have y1 : ∃ o, x1 = .row o := by
        cases x1 with
        | row o => exact ⟨o, rfl⟩
        | mapo es => have := ha.oth r1 _ (by intro o; simp) hx1; rw [k1] at this; cases this
        | siter a n => have := ha.oth r1 _ (by intro o; simp) hx1; rw [k1] at this; cases this
        | hid d => have := ha.oth r1 _ (by intro o; simp) hx1; rw [k1] at this; cases this
      have y2 : ∃ o, x2 = .row o := by
        cases x2 with
        | row o => exact ⟨o, rfl⟩
        | mapo es => have := ha.oth r2 _ (by intro o; simp) hx2; rw [k2] at this; cases this
        | siter a n => have := ha.oth r2 _ (by intro o; simp) hx2; rw [k2] at this; cases this
        | hid d => have := ha.oth r2 _ (by intro o; simp) hx2; rw [k2] at this; cases this
      obtain ⟨o1', rfl⟩ := y1
      obtain ⟨o2', rfl⟩ := y2
      obtain ⟨p1, m1, m2, m3, _⟩ := ha.row r1 o1' hx1
      obtain ⟨p2, n1, n2, n3, _⟩ := ha.row r2 o2' hx2
      rw [k1] at m1; cases m1
      rw [k2] at n1; cases n1
      exact .inr ⟨o1', o2', hx1, hx2, by rw [m2, n2]; exact k3, by rw [n3, m3]; exact k4⟩
  b0 q o2' b2 base2 e el hq := by
    obtain ⟨o2, e2, m1, _⟩ := ha.row q o2' e
    exact h.b0 q o2 b2 base2 e2 el (m1.symm.trans hq)
  hid n d b2 e eb w1 hw := h.hid n d b2 (ha.oth n _ (by intro o; simp) e) eb w1 fun k hk => (hw k hk).trans (setRow_heap_ne w b k c' fun e2 => by
    obtain ⟨r, base, hr⟩ := hm
    exact (h.own n k hk).2.1 r base (by rw [e2]; exact hr))
  own := by rw [setRow_size]; exact h.own
  hlt n b2 eb := by
    obtain ⟨h1, d, h2⟩ := h.hlt n b2 eb
    exact ⟨by rw [ha.next]; exact h1, d, ha.hid h2⟩

theorem setRow_same (w : World) (b : Nat) (c : Array Value) (ty : TypeId) (fr : Nat × Nat) (hb : w.heap[b]? = some (.cells c ty fr)) : w.setRow b c = w := setRow_self w b c ty fr hb

/-- A row that is there on one side comes to lie in a block that is there, beside others of its family. -/
theorem Rel.map_old {E : Env} {s : St} {w : World} (h : Rel E s w) {r r0 : Nat} {o o0 : Row} (hr : s.get r = some (.row o)) (hn : E.loc r = none)
    {b base base0 : Nat} (hr0 : s.get r0 = some (.row o0)) (hl0 : E.loc r0 = some (b, base0)) (hroot : o0.root = o.root) (hpos : base + o0.pos = base0 + o.pos)
    {c : Array Value} {ty : TypeId} (hb : w.heap[b]? = some (.cells c ty (0, 0))) (hty : ty = o.ty) (hne : o.root ≠ r) (hfit : base + o.vals.length ≤ c.size)
    (hv : valid s o = true → ∃ vs, VRL E o.vals vs ∧ ∀ (i : Nat) (v : Value), vs[i]? = some v → c[base + i]? = some v) :
    E.le (E.add r b base (E.bsz b)) ∧ Rel (E.add r b base (E.bsz b)) s w := by
  have hle : E.le (E.add r b base (E.bsz b)) := Env.add_le hn fun _ _ _ => rfl
  have hbs : E.bsz b = c.size := by
    obtain ⟨c2, ty2, _, g1, g2, _⟩ := h.row r0 o0 b base0 hr0 hl0
    rw [hb] at g1; cases g1; exact g2.symm
  refine ⟨hle, h.wf, ?_, ?_, h.z, ?_, ?_, ?_, ?_, ?_, ?_, h.hid, fun n k hk => ?_, h.hlt⟩
  rotate_right
  · obtain ⟨o1, o2, o3⟩ := h.own n k hk
    refine ⟨o1, fun q base2 e => ?_, o3⟩
    rcases Env.add_loc e with ⟨_, h1⟩ | ⟨_, h1⟩
    · cases h1; exact o2 r0 base0 hl0
    · exact o2 q base2 h1
  · intro q b2 base2 e
    rcases Env.add_loc e with ⟨rfl, h1⟩ | ⟨_, h1⟩
    · cases h1; exact ⟨h.wf.lt hr, (h.lt r0 b base0 hl0).2⟩
    · exact h.lt q b2 base2 h1
  · intro q p e
    rcases Env.add_loc e with ⟨rfl, _⟩ | ⟨_, h1⟩
    · exact ⟨_, hr⟩
    · exact h.obj q p h1
  · intro b2 i v q base2 e e2
    rcases Env.add_loc e2 with ⟨_, h1⟩ | ⟨_, h1⟩
    · cases h1; exact h.zap _ i v r0 base0 e hl0
    · exact h.zap b2 i v q base2 e h1
  · intro q o2 b2 base2 e el
    rcases Env.add_loc el with ⟨rfl, h1⟩ | ⟨hq, h1⟩
    · cases h1
      rw [hr] at e
      cases e
      refine ⟨c, ty, (0, 0), hb, by simp [Env.add, hbs], hfit, fun hvv => ?_⟩
      obtain ⟨vs, k1, k2⟩ := hv hvv
      exact ⟨⟨rfl, hty⟩, vs, VRL.mono hle k1, k2⟩
    · obtain ⟨c', ty', fz, g1, g2, g3, g4⟩ := h.row q o2 b2 base2 e h1
      refine ⟨c', ty', fz, g1, ?_, g3, fun hv' => ?_⟩
      · rw [hle.bsz q b2 base2 h1]; exact g2
      · obtain ⟨hz, vs', k1, k2⟩ := g4 hv'
        exact ⟨hz, vs', VRL.mono hle k1, k2⟩
  · intro q es b2 base2 e el
    rcases Env.add_loc el with ⟨rfl, h1⟩ | ⟨hq, h1⟩
    · rw [hr] at e; cases e
    · obtain ⟨ents, clock, g1, g2, g3⟩ := h.mapo q es b2 base2 e h1
      exact ⟨ents, clock, g1, VRL.mono hle g2, VRL.mono hle g3⟩
  · intro q x n b2 base2 e el
    rcases Env.add_loc el with ⟨rfl, h1⟩ | ⟨hq, h1⟩
    · rw [hr] at e; cases e
    · exact h.iter q x n b2 base2 e h1
  · intro r1 r2 b2 b1 b3 e1 e2
    rcases Env.add_loc e1 with ⟨rfl, h1⟩ | ⟨hq1, h1⟩ <;> rcases Env.add_loc e2 with ⟨rfl, h2⟩ | ⟨hq2, h2⟩
    · exact .inl rfl
    · cases h1
      rcases h.coh r0 r2 b base0 b3 hl0 h2 with h3 | ⟨o1, o2, k1, k2, k3, k4⟩
      · subst h3
        rw [hl0] at h2; cases h2
        exact .inr ⟨o, o0, hr, hr0, hroot.symm, hpos⟩
      · rw [hr0] at k1; cases k1
        exact .inr ⟨o, o2, hr, k2, hroot.symm.trans k3, by omega⟩
    · cases h2
      rcases h.coh r0 r1 b base0 b1 hl0 h1 with h3 | ⟨o1, o2, k1, k2, k3, k4⟩
      · subst h3
        rw [hl0] at h1; cases h1
        exact .inr ⟨o0, o, hr0, hr, hroot, hpos.symm⟩
      · rw [hr0] at k1; cases k1
        exact .inr ⟨o2, o, k2, hr, k3.symm.trans hroot, by omega⟩
    · exact h.coh r1 r2 b2 b1 b3 h1 h2
  · intro q o2 b2 base2 e el hq
    rcases Env.add_loc el with ⟨h2, _⟩ | ⟨_, h1⟩
    · subst h2; rw [hr] at e; cases e; exact absurd hq hne
    · exact h.b0 q o2 b2 base2 e h1 hq

/-! ## A store -/

theorem VR.single {E : Env} {a : AV} {v : Value} (h : VR E a v) (hs : a.single = true) : v.oneCell' = true := by
  cases h <;> first | rfl | (simp [AV.single] at hs)

theorem VRL.single {E : Env} : ∀ {a : List AV} {v : List Value}, VRL E a v → a.all AV.single = true → ∀ u ∈ v, u.oneCell' = true
  | _, _, .nil, _, u, hu => by simp at hu
  | _, _, .cons h hl, hs, u, hu => by
    simp only [List.all_cons, Bool.and_eq_true] at hs
    rcases List.mem_cons.1 hu with rfl | hu
    · exact h.single hs.1
    · exact hl.single hs.2 u hu

theorem valid_solo {s : St} {o : Row} (h : o.solo = true) : valid s o = true := by simp [valid, h]
theorem valid_multi {s : St} {o q : Row} (h : o.solo = false) (hq : s.get o.root = some (.row q)) : valid s o = o.ep.beq q.fep := by simp [valid, h, hq]
theorem cond_of_true {α : Type} {b : Bool} {x y : α} (h : b = true) : (bif b then x else y) = x := by subst h; rfl
theorem cond_of_false {α : Type} {b : Bool} {x y : α} (h : b = false) : (bif b then x else y) = y := by subst h; rfl
theorem beq_false_of_ne {a b : Nat} (h : a ≠ b) : a.beq b = false := by
  cases hb : a.beq b with
  | false => rfl
  | true => exact absurd (Nat.eq_of_beq_eq_true hb) h

/-- What a store does to the second meaning's memory. -/
structure Stored (s s' : St) (r : Nat) (o : Row) (vals : List AV) : Prop where
  alike : Alike s s'
  at_ : ∃ o', s'.get r = some (.row o') ∧ o'.vals = vals ∧ o'.root = o.root ∧ o'.pos = o.pos
  others : ∀ q o2, q ≠ r → s'.get q = some (.row o2) → valid s' o2 = true → o2.root ≠ o.root ∧ ∃ o3, s.get q = some (.row o3) ∧ valid s o3 = true ∧ o3.vals = o2.vals
  same : ∀ q, q ≠ r → q ≠ o.root → s'.get q = s.get q

theorem stored_solo {s : St} (hw : Wf s) {r : Nat} {o : Row} (hr : s.get r = some (.row o)) (hs : o.solo = true) (vals : List AV) (hl : vals.length = o.vals.length) :
    Stored s (s.set r (.row { o with vals := vals })) r o vals := by
  obtain ⟨hroot, hsolo⟩ := hw.solo r o hr hs
  obtain ⟨q0, hq0, e1, e2, e3⟩ := hw.root r o hr
  rw [hroot, hr] at hq0
  cases hq0
  have hget : ∀ q, q ≠ r → (s.set r (.row { o with vals := vals })).get q = s.get q := fun q hq => St.get_set_ne s _ (fun e => hq e.symm)
  have hself : (s.set r (.row { o with vals := vals })).get r = some (.row { o with vals := vals }) := St.get_set_same _ _ _
  have hvalid : ∀ q o2, q ≠ r → s.get q = some (.row o2) → valid (s.set r (.row { o with vals := vals })) o2 = valid s o2 := fun q o2 hq e =>
    valid_congr (hget _ (fun e' => hq (hsolo q o2 e e')))
  refine ⟨⟨rfl, ⟨?_, ?_, ?_⟩, ?_, ?_, ?_, ?_⟩, ⟨_, hself, rfl, rfl, rfl⟩, ?_, fun q hq _ => hget q hq⟩
  · intro q hq
    have : q ≠ r := fun e => by subst e; have := hw.lt hr; simp at hq; omega
    rw [hget q this]; exact hw.fresh q hq
  · intro q o2 e
    by_cases hq : q = r
    · subst hq
      rw [hself] at e; cases e
      exact ⟨{ o with vals := vals }, (congrArg (s.set q (.row { o with vals := vals })).get hroot).trans hself, rfl, e2, fun _ => by simp only [hl]; exact e3 (valid_solo hs)⟩
    · rw [hget q hq] at e
      obtain ⟨q2, g1, g2, g3, g4⟩ := hw.root q o2 e
      have hne : o2.root ≠ r := fun e' => hq (hsolo q o2 e e')
      exact ⟨q2, by rw [hget _ hne]; exact g1, g2, g3, fun hv => g4 (by rw [hvalid q o2 hq e] at hv; exact hv)⟩
  · intro q o2 e h2
    by_cases hq : q = r
    · subst hq
      rw [hself] at e; cases e
      refine ⟨hroot, fun r2 o3 e3' h3 => ?_⟩
      by_cases hr2 : r2 = q
      · exact hr2
      · rw [hget r2 hr2] at e3'; exact hsolo r2 o3 e3' h3
    · rw [hget q hq] at e
      obtain ⟨k1, k2⟩ := hw.solo q o2 e h2
      refine ⟨k1, fun r2 o3 e3' h3 => ?_⟩
      by_cases hr2 : r2 = r
      · subst hr2
        rw [hself] at e3'; cases e3'
        exact k2 r2 o hr h3
      · rw [hget r2 hr2] at e3'; exact k2 r2 o3 e3' h3
  · intro q o2 e
    by_cases hq : q = r
    · subst hq; rw [hself] at e; cases e; exact ⟨o, hr, rfl, rfl, hl⟩
    · rw [hget q hq] at e; exact ⟨o2, e, rfl, rfl, rfl⟩
  · intro q o2' o2 e e2
    by_cases hq : q = r
    · subst hq; rw [hself] at e; cases e; rw [hr] at e2; cases e2; rfl
    · rw [hget q hq, e2] at e; cases e; rfl
  · intro q x hx e
    by_cases hq : q = r
    · subst hq; rw [hself] at e; cases e; exact absurd rfl (hx _)
    · rw [hget q hq] at e; exact e
  · intro q x e
    by_cases hq : q = r
    · subst hq; exact ⟨_, hself⟩
    · exact ⟨x, by rw [hget q hq]; exact e⟩
  · intro q o2 hq e hv
    rw [hget q hq] at e
    refine ⟨fun e' => hq (hsolo q o2 e (e'.trans hroot)), o2, e, ?_, rfl⟩
    rw [hvalid q o2 hq e] at hv
    exact hv

/-- The family's number is raised; one row of it stays. -/
theorem stored_multi {s s' : St} (hw : Wf s) {r : Nat} {o q0 : Row} (hr : s.get r = some (.row o)) (hs : o.solo = false) (hq0 : s.get o.root = some (.row q0))
    (vals : List AV) (hl : vals.length = o.vals.length) (hv : valid s o = true) (hn : s'.next = s.next)
    (hself : ∃ o', s'.get r = some (.row o') ∧ o'.vals = vals ∧ o'.root = o.root ∧ o'.pos = o.pos ∧ o'.solo = false ∧ o'.ep = q0.fep + 1 ∧ o'.ty = o.ty)
    (hrt : ∃ q', s'.get o.root = some (.row q') ∧ q'.fep = q0.fep + 1 ∧ q'.ext = q0.ext ∧ q'.root = q0.root ∧ q'.pos = q0.pos ∧ q'.solo = q0.solo ∧ q'.vals.length = q0.vals.length ∧ (o.root ≠ r → q'.ep = q0.ep ∧ q'.vals = q0.vals) ∧ q'.ty = q0.ty)
    (hget : ∀ q, q ≠ r → q ≠ o.root → s'.get q = s.get q) : Stored s s' r o vals := by
  obtain ⟨o', h1, h2, h3, h4, h5, h6, h7⟩ := hself
  obtain ⟨q', k1, k2, k3, k4, k5, k6, k7, k8, k9⟩ := hrt
  obtain ⟨q1, g1, g2, g3, g4⟩ := hw.root r o hr
  rw [hq0] at g1; cases g1
  -- nobody in the family stands alone
  have hfam : ∀ q o2, s.get q = some (.row o2) → o2.root = o.root → o2.solo = false := by
    intro q o2 e er
    cases hso : o2.solo with
    | false => rfl
    | true =>
      obtain ⟨m1, m2⟩ := hw.solo q o2 e hso
      have : r = q := m2 r o hr (er.symm.trans m1)
      subst this
      rw [hr] at e; cases e
      rw [hs] at hso; cases hso
  have hroot0 : q0.root = o.root := g2
  -- the rows of s'
  have hrow : ∀ q o2', s'.get q = some (.row o2') → ∃ o2, s.get q = some (.row o2) ∧ o2'.root = o2.root ∧ o2'.pos = o2.pos ∧ o2'.vals.length = o2.vals.length ∧ o2'.solo = o2.solo ∧
      (q ≠ r → o2'.ep = o2.ep ∧ o2'.vals = o2.vals) ∧ (q ≠ o.root → q ≠ r → o2' = o2) := by
    intro q o2' e
    by_cases hq : q = r
    · subst hq
      rw [h1] at e; cases e
      exact ⟨o, hr, h3, h4, by rw [h2, hl], by rw [h5, hs], fun h => absurd rfl h, fun _ h => absurd rfl h⟩
    · by_cases hq2 : q = o.root
      · subst hq2
        rw [k1] at e; cases e
        exact ⟨q0, hq0, k4, k5, k7, k6, fun _ => k8 (fun e' => hq e'), fun h => absurd rfl h⟩
      · rw [hget q hq hq2] at e
        exact ⟨o2', e, rfl, rfl, rfl, rfl, fun _ => ⟨rfl, rfl⟩, fun _ _ => rfl⟩
  have hvo : ∀ q o2', q ≠ r → s'.get q = some (.row o2') → valid s' o2' = true → o2'.root ≠ o.root := by
    intro q o2' hq e hv2 er
    obtain ⟨o2, e2, a1, a2, a3, a4, a5, _⟩ := hrow q o2' e
    have hso := hfam q o2 e2 (a1.symm.trans er)
    rw [valid_multi (a4.trans hso) (by rw [er]; exact k1)] at hv2
    have hep := Nat.eq_of_beq_eq_true hv2
    obtain ⟨q2, b1, b2, b3, b4⟩ := hw.root q o2 e2
    rw [a1.symm.trans er, hq0] at b1; cases b1
    have := (a5 hq).1
    omega
  have hvs : ∀ q o2, s.get q = some (.row o2) → o2.root ≠ o.root → ∀ o2', o2'.root = o2.root → o2'.solo = o2.solo → o2'.ep = o2.ep → valid s' o2' = valid s o2 := by
    intro q o2 e er o2' c1 c2 c3
    obtain ⟨q2, b1, b2, b3, b4⟩ := hw.root q o2 e
    have hne : o2.root ≠ r := fun e' => by
      rw [e', hr] at b1; cases b1
      exact er b2.symm
    have hg : s'.get o2'.root = s.get o2.root := by rw [c1]; exact hget _ hne er
    unfold valid
    rw [hg, c2, c3]
  refine ⟨⟨hn, ⟨?_, ?_, ?_⟩, ?_, ?_, ?_, ?_⟩, ⟨o', h1, h2, h3, h4⟩, ?_, hget⟩
  · intro q hq
    rw [hn] at hq
    have n1 : q ≠ r := fun e => by subst e; have := hw.lt hr; omega
    have n2 : q ≠ o.root := fun e => by subst e; have := hw.lt hq0; omega
    rw [hget q n1 n2]; exact hw.fresh q hq
  · intro q o2' e
    obtain ⟨o2, e2, a1, a2, a3, a4, a5, _⟩ := hrow q o2' e
    by_cases er : o2.root = o.root
    · refine ⟨q', by rw [a1, er]; exact k1, by rw [k4, a1, er]; exact hroot0, ?_, ?_⟩
      · by_cases hq : q = r
        · subst hq; rw [h1] at e; cases e; rw [h6, k2]; exact Nat.le_refl _
        · obtain ⟨q2, b1, b2, b3, b4⟩ := hw.root q o2 e2
          rw [er, hq0] at b1; cases b1
          have := (a5 hq).1
          omega
      · intro hv2
        by_cases hq : q = r
        · subst hq
          rw [hr] at e2; cases e2
          rw [a2, a3, k3]; exact g4 hv
        · exact absurd (a1.trans er) (hvo q o2' hq e hv2)
    · obtain ⟨q2, b1, b2, b3, b4⟩ := hw.root q o2 e2
      have hq : q ≠ r := fun e' => by subst e'; rw [hr] at e2; cases e2; exact er rfl
      have hne : o2.root ≠ r := fun e' => by rw [e', hr] at b1; cases b1; exact er b2.symm
      have hqr : q ≠ o.root := fun e' => by subst e'; rw [hq0] at e2; cases e2; exact er hroot0
      refine ⟨q2, by rw [a1, hget _ hne er]; exact b1, by rw [a1]; exact b2, by rw [(a5 hq).1]; exact b3, fun hv2 => ?_⟩
      rw [a2, a3]
      exact b4 (by rw [← hvs q o2 e2 er o2' a1 a4 (a5 hq).1]; exact hv2)
  · intro q o2' e hso
    obtain ⟨o2, e2, a1, a2, a3, a4, a5, _⟩ := hrow q o2' e
    obtain ⟨m1, m2⟩ := hw.solo q o2 e2 (a4.symm.trans hso)
    refine ⟨a1.trans m1, fun r2 o3' e3 h3' => ?_⟩
    obtain ⟨o3, e4, c1, _⟩ := hrow r2 o3' e3
    exact m2 r2 o3 e4 (c1.symm.trans h3')
  · intro q o2' e
    obtain ⟨o2, e2, a1, a2, a3, _⟩ := hrow q o2' e
    exact ⟨o2, e2, a1, a2, a3⟩
  · intro q o2' o2 e e2
    by_cases n1 : q = r
    · subst n1; rw [h1] at e; cases e; rw [hr] at e2; cases e2; exact h7
    · by_cases n2 : q = o.root
      · subst n2; rw [k1] at e; cases e; rw [hq0] at e2; cases e2; exact k9
      · rw [hget q n1 n2, e2] at e; cases e; rfl
  · intro q x hx e
    have n1 : q ≠ r := fun e' => by subst e'; rw [h1] at e; cases e; exact hx _ rfl
    have n2 : q ≠ o.root := fun e' => by subst e'; rw [k1] at e; cases e; exact hx _ rfl
    rw [hget q n1 n2] at e; exact e
  · intro q x e
    by_cases n1 : q = r
    · subst n1; exact ⟨_, h1⟩
    · by_cases n2 : q = o.root
      · subst n2; exact ⟨_, k1⟩
      · exact ⟨x, by rw [hget q n1 n2]; exact e⟩
  · intro q o2' hq e hv2
    have hne := hvo q o2' hq e hv2
    obtain ⟨o2, e2, a1, a2, a3, a4, a5, _⟩ := hrow q o2' e
    refine ⟨hne, o2, e2, ?_, (a5 hq).2.symm⟩
    rw [← hvs q o2 e2 (fun h => hne (a1.trans h)) o2' a1 a4 (a5 hq).1]; exact hv2

theorem storeCellsA_stored {s s' : St} (hw : Wf s) {r off : Nat} {new : List AV} (h : storeCellsA s r off new = some s') :
    ∃ o vals, s.get r = some (.row o) ∧ valid s o = true ∧ overwrite o.vals off new = some vals ∧ Stored s s' r o vals := by
  unfold storeCellsA at h
  split at h
  · rename_i o ho
    obtain ⟨hr, hv⟩ := rowAt_eq ho
    split at h
    · rename_i vals hvals
      have hl := (overwrite_len hvals).1
      refine ⟨o, vals, hr, hv, hvals, ?_⟩
      rcases Bool.eq_false_or_eq_true o.solo with hs | hs
      · rw [cond_of_true hs] at h
        cases h
        exact stored_solo hw hr hs vals hl
      · rw [cond_of_false hs] at h
        split at h
        · rename_i q hq
          rcases Bool.eq_false_or_eq_true (o.root.beq r) with hb | hb
          · have hroot := Nat.eq_of_beq_eq_true hb
            rw [cond_of_true hb] at h
            cases h
            have hqo : q = o := by rw [hroot, hr] at hq; cases hq; rfl
            subst hqo
            exact stored_multi hw hr hs hq vals hl hv rfl ⟨_, St.get_set_same _ _ _, rfl, rfl, rfl, hs, rfl, rfl⟩
              ⟨_, (congrArg (s.set r _).get hroot).trans (St.get_set_same _ _ _), rfl, rfl, rfl, rfl, rfl, hl, fun h => absurd hroot h, rfl⟩ (fun q2 h1 _ => St.get_set_ne _ _ (fun e => h1 e.symm))
          · have hroot : o.root ≠ r := fun e => by rw [e] at hb; simp at hb
            rw [cond_of_false hb] at h
            cases h
            exact stored_multi hw hr hs hq vals hl hv rfl ⟨_, St.get_set_same _ _ _, rfl, rfl, rfl, hs, rfl, rfl⟩
              ⟨_, (St.get_set_ne _ _ (fun e => hroot e.symm)).trans (St.get_set_same _ _ _), rfl, rfl, rfl, rfl, rfl, rfl, fun _ => ⟨rfl, rfl⟩, rfl⟩
              (fun q2 h1 h2 => by rw [St.get_set_ne _ _ (fun e => h1 e.symm), St.get_set_ne _ _ (fun e => h2 e.symm)])
        · cases h
    · cases h
  · cases h

/-- Cells of a block are written, on both sides. -/
theorem Step.store {E : Env} {s s' : St} {w : World} (h : Rel E s w) {r off : Nat} {new : List AV} (hs : storeCellsA s r off new = some s') {vs : List Value} (hv : VRL E new vs)
    {b base : Nat} (hl : E.loc r = some (b, base)) :
    ∃ c ty, w.heap[b]? = some (.cells c ty (0, 0)) ∧ base + off + vs.length ≤ c.size ∧
      Step E s w E s' (w.setRow b (c.toList.take (base + off) ++ vs ++ c.toList.drop (base + off + vs.length)).toArray) := by
  obtain ⟨o, vals, hr, hvo, hover, hst⟩ := storeCellsA_stored h.wf hs
  obtain ⟨c, ty, fz, g1, g2, g3, g4⟩ := h.row r o b base hr hl
  obtain ⟨⟨hz, hty⟩, us, k1, k2⟩ := g4 hvo
  subst hz
  obtain ⟨l1, l2⟩ := overwrite_len hover
  have hvl := hv.length
  have hfit : base + off + vs.length ≤ c.size := by omega
  refine ⟨c, ty, g1, hfit, ?_⟩
  have hcsz : (c.toList.take (base + off) ++ vs ++ c.toList.drop (base + off + vs.length)).toArray.size = c.size := by
    simp only [List.size_toArray, List.length_append, List.length_take, List.length_drop, Array.length_toList]; omega
  have hcget : ∀ i, (c.toList.take (base + off) ++ vs ++ c.toList.drop (base + off + vs.length)).toArray[i]? = if base + off ≤ i ∧ i < base + off + vs.length then vs[i - (base + off)]? else c[i]? := by
    intro i
    simp only [List.getElem?_toArray, List.append_assoc, List.getElem?_append, List.length_take, Array.length_toList, List.getElem?_take, List.getElem?_drop, Array.getElem?_toList]
    have hmin : min (base + off) c.size = base + off := by omega
    rw [hmin]
    by_cases c1 : i < base + off
    · rw [if_pos c1, if_pos c1, if_neg (by omega)]
    · rw [if_neg c1]
      by_cases c2 : i - (base + off) < vs.length
      · rw [if_pos c2, if_pos (by omega)]
      · rw [if_neg c2, if_neg (by omega)]
        congr 1; omega
  obtain ⟨o', e1, e2, e3, e4⟩ := hst.at_
  have hrel : Rel E s' (w.setRow b (c.toList.take (base + off) ++ vs ++ c.toList.drop (base + off + vs.length)).toArray) := by
    refine h.block hst.alike g1 ⟨r, base, hl⟩ _ hcsz ?_ ?_
    · intro q o2 base2 eq el hv2
      by_cases hq : q = r
      · subst hq
        rw [e1] at eq; cases eq
        rw [hl] at el; cases el
        -- the new cells
        refine ⟨by rw [hst.alike.ty q o' o e1 hr]; exact hty, us.take off ++ vs ++ us.drop (off + vs.length), ?_, fun i v hi => ?_⟩
        · rw [e2]
          refine VRL.of_get ?_ ?_
          · have := k1.length
            simp only [List.length_append, List.length_take, List.length_drop]; omega
          · intro i a v ha hv3
            have ho := overwrite_get hover i
            rw [ha] at ho
            have hlu := k1.length
            simp only [List.append_assoc, List.getElem?_append, List.length_take, List.getElem?_take, List.getElem?_drop] at hv3
            have hmin : min off us.length = off := by omega
            rw [hmin] at hv3
            by_cases c1 : i < off
            · rw [if_pos c1, if_pos c1] at hv3
              rw [if_neg (by omega)] at ho
              obtain ⟨u, hu, hau⟩ := k1.at_ ho.symm
              rw [hu] at hv3; cases hv3; exact hau
            · rw [if_neg c1] at hv3
              by_cases c2 : i - off < vs.length
              · rw [if_pos c2] at hv3
                rw [if_pos (by omega)] at ho
                obtain ⟨u, hu, hau⟩ := hv.at_ ho.symm
                rw [hu] at hv3; cases hv3; exact hau
              · rw [if_neg c2] at hv3
                rw [if_neg (by omega)] at ho
                obtain ⟨u, hu, hau⟩ := k1.at_ ho.symm
                rw [show off + vs.length + (i - off - vs.length) = i by omega, hu] at hv3
                cases hv3; exact hau
        · rw [hcget]
          have hlu := k1.length
          simp only [List.append_assoc, List.getElem?_append, List.length_take, List.getElem?_take, List.getElem?_drop] at hi
          have hmin : min off us.length = off := by omega
          rw [hmin] at hi
          by_cases c1 : i < off
          · rw [if_pos c1, if_pos c1] at hi
            rw [if_neg (by omega)]
            exact k2 i v hi
          · rw [if_neg c1] at hi
            by_cases c2 : i - off < vs.length
            · rw [if_pos c2] at hi
              rw [if_pos (by omega), ← hi]
              congr 1; omega
            · rw [if_neg c2] at hi
              rw [if_neg (by omega)]
              have := k2 _ v hi
              rw [← this]; congr 1; omega
      · obtain ⟨n1, o3, n2, n3, n4⟩ := hst.others q o2 hq eq hv2
        obtain ⟨x2, y1, y2, _⟩ := hst.alike.row q o2 eq
        rw [n2] at y1; cases y1
        rcases h.coh q r b base2 base el hl with h3 | ⟨z1, z2, m1, m2, m3, m4⟩
        · exact absurd h3 hq
        · rw [n2] at m1; cases m1
          rw [hr] at m2; cases m2
          exact absurd (y2.trans m3) n1
    · intro q o2 b2 base2 eq el hne hv2
      by_cases hq : q = r
      · subst hq; rw [hl] at el; cases el; exact absurd rfl hne
      · obtain ⟨_, o3, n2, n3, n4⟩ := hst.others q o2 hq eq hv2
        exact ⟨o3, n2, n3, n4⟩
  refine ⟨.refl E, fun _ _ => rfl, fun q b2 base2 e => .inr ⟨q, base2, e⟩, hrel, ?_, ?_, ?_, rfl, rfl, rfl, by rw [setRow_size]; exact Nat.le_refl _, fun _ _ e => .inl e, fun n d e => ⟨d, hst.alike.hid e⟩⟩
  · intro q hq hn hso _
    have n1 : q ≠ r := fun e => by subst e; rw [hl] at hn; cases hn
    by_cases n2 : q = o.root
    · obtain ⟨q0, m1, _⟩ := h.wf.root r o hr
      rw [← n2] at m1
      exact absurd ((h.wf.solo q q0 m1 (hso q0 m1)).2 r o hr n2.symm).symm n1
    · exact hst.same q n1 n2
  · rw [hst.alike.next]; exact Nat.le_refl _
  · intro b2 hb2 hn _
    exact setRow_heap_ne w b b2 _ (fun e => by subst e; exact hn r base hl)
end Go.Am
