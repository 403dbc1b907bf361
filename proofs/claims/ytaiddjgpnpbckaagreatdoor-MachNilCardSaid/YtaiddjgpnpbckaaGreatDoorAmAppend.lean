/- append, on both sides. -/
import Derived.Test.YtaiddjgpnpbckaaGreatDoorAmStore
import Derived.Deep.AppendSrc
import Derived.Deep.Upon
set_option autoImplicit false
namespace Go.Am

theorem setCells_setRow (P : Program) {w : World} {b o : Nat} {vs : List Value} {c : Array Value} {ty : TypeId} (hb : w.heap[b]? = some (.cells c ty (0, 0))) (hl : o + vs.length ≤ c.size)
    (h1 : ∀ v ∈ vs, v.oneCell' = true) : w.setCells b o vs = w.setRow b (c.toList.take o ++ vs ++ c.toList.drop (o + vs.length)).toArray := by
  have e1 := run_storeCells_cells (P := P) b o vs 0 w (fun j hj => by simp [World.cell?, hb]; omega) (fun j hj => by simp [World.frozen?, hb]) h1
  have e2 := run_storeCells_at P b o ty vs 0 c w hb (by omega) h1
  simp only [Nat.add_zero] at e1 e2
  rw [e1] at e2
  injection e2

/-- The types that an append knows of. -/
structure AppTy (P : Program) (t e : TypeId) (i : TypeInfo) (z : Value) (es : Nat) : Prop where
  ht : P.underlying t = some (.slice e)
  hi : P.info? e = some i
  hz : i.zero = some z
  size : i.size = es
  zs : z.cells.size = es
  bytes : i.bytes ≤ 65536

theorem take_at {α : Type} (l : List α) (n i : Nat) (x : α) (h : (l.take n)[i]? = some x) : l[i]? = some x := by
  rw [List.getElem?_take] at h
  split at h
  · exact h
  · cases h

/-- A new row takes the old cells and the new ones. -/
theorem append_new {P : Program} {E : Env} {s : St} {w : World} (h : Rel E s w) {t tx ty e : TypeId} {i : TypeInfo} {z : Value} {es : Nat} (A : AppTy P t e i z es)
    {base : Option Addr} {len cap : Nat} {old new : List AV} {olds news : List Value} (hold : VRL E old olds) (hnew : VRL E new news) {x : Value} {n : Nat}
    (ho : (Builtin.firstCells i.size len (.slice base len cap)).run P w.drew = .ok olds.toArray w.drew) (hs : Src P i.size tx x n news w) (hl : olds.length = len * es)
    (hg : cap < len + n) (hb : len + n ≤ 1073741824) :
    ∃ v' w', (Builtin.append_ #[t, tx] ty #[.slice base len cap, x]).run P w = .ok v' w' ∧
      Step E s w (E.add s.next w.heap.size 0 (grownCap w (len + n) cap e * es)) (pushRow s e (old ++ new)) w' ∧
      (∀ E', E.add s.next w.heap.size 0 (grownCap w (len + n) cap e * es) = E' → VR E' (.sl s.next 0 (len + n) es false) v') := by
  have hge := grownCap_ge w (len + n) cap e
  have hr := run_append_grow_src (P := P) w t tx ty e i z A.ht A.hi A.hz base len cap olds ho x n news hs hg (by omega)
    (growslice_fits hg (Nat.le_trans (Nat.mul_le_mul hb A.bytes) (by omega)))
  refine ⟨_, _, hr, ?_, ?_⟩
  · have hd : Rel E s w.drew := h.same rfl
    have hsz : ((olds ++ news).toArray ++ Builtin.zeroCells z.cells (grownCap w (len + n) cap e - (len + n))).size = grownCap w (len + n) cap e * es := by
      have h2 := hs.newsLen
      rw [A.size] at h2
      simp only [Array.size_append, List.size_toArray, size_zeroCells, A.zs, List.length_append, hl, h2, ← Nat.add_mul]
      congr 1; omega
    have st := Step.alloc hd (vals := old ++ new) (hold.append hnew) ((olds ++ news).toArray ++ Builtin.zeroCells z.cells (grownCap w (len + n) cap e - (len + n))) e
      (fun j v hj => by
        have hlt : j < (olds ++ news).length := by
          rcases Nat.lt_or_ge j (olds ++ news).length with h1 | h1
          · exact h1
          · rw [List.getElem?_eq_none h1] at hj; cases hj
        rw [Array.getElem?_append_left (by simpa using hlt)]
        simpa using hj)
      (by have := (hold.append hnew).length; rw [this]; simp)
    rw [hsz] at st
    have hsame : Step E s w E s w.drew := Step.same h rfl rfl rfl rfl
    exact hsame.trans st
  · rintro E' rfl
    refine .sl (base := 0) (b := w.heap.size) (Env.add_self _ _ _ _ _) hge (fun h => by cases h) (fun _ => ⟨rfl, ?_⟩)
    simp [Env.add]

/-- The cells of a slice, at a world whose memory is that of w. -/
theorem firstCells_of {P : Program} {w : World} {size len cap : Nat} {a : Option Addr} {vs : List Value} (hl : vs.length = len * size)
    (h : 0 < vs.length → ∃ b off, a = some ⟨b, off, none⟩ ∧ ∀ (i : Nat) (v : Value), vs[i]? = some v → w.cell? ⟨b, off + i, none⟩ = some v) :
    (Builtin.firstCells size len (.slice a len cap)).run P w = .ok vs.toArray w := by
  cases a with
  | none =>
    have : vs = [] := by
      cases vs with
      | nil => rfl
      | cons x l => obtain ⟨b, off, e, _⟩ := h (by simp); cases e
    subst this
    exact run_firstCells_none w size len len cap
  | some a =>
    refine run_firstCells_some w size len a len cap vs hl (fun j v hj => ?_)
    have hpos : 0 < vs.length := by
      cases vs with
      | nil => simp at hj
      | cons x l => simp
    obtain ⟨b, off, e, hc⟩ := h hpos
    cases e
    rw [Addr.add_lit]
    exact hc j v hj

/-- The cells behind a row's slice. -/
theorem row_cells {E : Env} {s : St} {w : World} (h : Rel E s w) {r b base : Nat} {o : Row} (hr : rowAt s r = some o) (hl : E.loc r = some (b, base)) {n off : Nat} {q : List AV}
    (hq : cutN n off o.vals = some q) : ∃ vs, VRL E q vs ∧ vs.length = n ∧ ∀ (i : Nat) (v : Value), vs[i]? = some v → w.cell? ⟨b, base + off + i, none⟩ = some v := by
  have hc : cellsAt n (.ptr r off) s = some q := by simp [cellsAt, hr, hq]
  obtain ⟨b', off', vs, e, h1, h2, h3⟩ := h.cells hc (.ptr off hl)
  cases e
  exact ⟨vs, h1, by rw [← h1.length]; exact h2, h3⟩

/-- The old row and its family, when a row more comes. -/
theorem append_meta {s s1 : St} (hw : Wf s) {r : Nat} {o q0 : Row} (hr : s.get r = some (.row o)) (hv : valid s o = true) (hq0 : s.get o.root = some (.row q0)) {e f ext : Nat}
    (hf : (q0.ext ≤ e ∧ f = q0.fep) ∨ f = q0.fep + 1) (hext : q0.ext ≤ ext) (hn : s1.next = s.next)
    (hself : ∃ o1, s1.get r = some (.row o1) ∧ o1.root = o.root ∧ o1.pos = o.pos ∧ o1.vals = o.vals ∧ o1.solo = false ∧ (o1.ep = q0.fep ∨ o1.ep = o.ep) ∧ o1.ty = o.ty)
    (hrt : ∃ q1, s1.get o.root = some (.row q1) ∧ q1.fep = f ∧ q1.ext = ext ∧ q1.root = o.root ∧ q1.pos = q0.pos ∧ q1.vals = q0.vals ∧ (o.root ≠ r → q1.ep = q0.ep ∧ q1.solo = q0.solo) ∧ q1.ty = q0.ty)
    (hget : ∀ q, q ≠ r → q ≠ o.root → s1.get q = s.get q) :
    Alike s s1 ∧ (∀ q o2', s1.get q = some (.row o2') → valid s1 o2' = true → ∃ o2, s.get q = some (.row o2) ∧ valid s o2 = true ∧ o2.vals = o2'.vals ∧ (o2'.root = o.root → o2'.pos + o2'.vals.length ≤ e)) ∧
    (∀ q o2', s1.get q = some (.row o2') → o2'.root = o.root → o2'.solo = false ∧ o2'.ep ≤ f) := by
  obtain ⟨o1, h1, h2, h3, h4, h5, h6, h7⟩ := hself
  obtain ⟨q1, k1, k2, k3, k4, k5, k6, k7, k8⟩ := hrt
  obtain ⟨q2, g1, g2, g3, g4⟩ := hw.root r o hr
  rw [hq0] at g1; cases g1
  have hff : q0.fep ≤ f := by rcases hf with ⟨_, h⟩ | h <;> omega
  -- others of the family do not stand alone
  have hfam : ∀ q o2, q ≠ r → s.get q = some (.row o2) → o2.root = o.root → o2.solo = false := by
    intro q o2 hq e er
    cases hso : o2.solo with
    | false => rfl
    | true =>
      obtain ⟨m1, m2⟩ := hw.solo q o2 e hso
      exact absurd (m2 r o hr (er.symm.trans m1)).symm hq
  have hrow : ∀ q o2', s1.get q = some (.row o2') → ∃ o2, s.get q = some (.row o2) ∧ o2'.root = o2.root ∧ o2'.pos = o2.pos ∧ o2'.vals = o2.vals ∧
      (q ≠ r → o2'.ep = o2.ep ∧ o2'.solo = o2.solo) := by
    intro q o2' e
    by_cases hq : q = r
    · subst hq
      rw [h1] at e; cases e
      exact ⟨o, hr, h2, h3, h4, fun h => absurd rfl h⟩
    · by_cases hq2 : q = o.root
      · subst hq2
        rw [k1] at e; cases e
        exact ⟨q0, hq0, k4.trans g2.symm, k5, k6, fun _ => k7 (fun e' => hq e')⟩
      · rw [hget q hq hq2] at e
        exact ⟨o2', e, rfl, rfl, rfl, fun _ => ⟨rfl, rfl⟩⟩
  have hfs : ∀ q o2', s1.get q = some (.row o2') → o2'.root = o.root → o2'.solo = false ∧ o2'.ep ≤ f := by
    intro q o2' e er
    obtain ⟨o2, e2, a1, a2, a3, a4⟩ := hrow q o2' e
    by_cases hq : q = r
    · subst hq
      rw [h1] at e; cases e
      refine ⟨h5, ?_⟩
      rcases h6 with h6 | h6 <;> omega
    · have hso := hfam q o2 hq e2 (a1.symm.trans er)
      obtain ⟨q3, b1, b2, b3, b4⟩ := hw.root q o2 e2
      rw [a1.symm.trans er, hq0] at b1; cases b1
      exact ⟨(a4 hq).2.trans hso, by have := (a4 hq).1; omega⟩
  have hval : ∀ q o2', s1.get q = some (.row o2') → valid s1 o2' = true → ∃ o2, s.get q = some (.row o2) ∧ valid s o2 = true ∧ o2.vals = o2'.vals ∧ (o2'.root = o.root → o2'.pos + o2'.vals.length ≤ e) := by
    intro q o2' e hv'
    obtain ⟨o2, e2, a1, a2, a3, a4⟩ := hrow q o2' e
    by_cases er : o2'.root = o.root
    · obtain ⟨c1, c2⟩ := hfs q o2' e er
      rw [valid_multi c1 (by rw [er]; exact k1)] at hv'
      have hep := Nat.eq_of_beq_eq_true hv'
      rcases hf with ⟨hf1, hf2⟩ | hf1
      · have hv2 : valid s o2 = true := by
          by_cases hq : q = r
          · subst hq; rw [hr] at e2; cases e2; exact hv
          · rw [valid_multi (hfam q o2 hq e2 (a1.symm.trans er)) (by rw [← a1, er]; exact hq0)]
            have := (a4 hq).1
            rw [show o2.ep = q0.fep by omega]
            simp
        obtain ⟨q3, b1, b2, b3, b4⟩ := hw.root q o2 e2
        rw [← a1, er, hq0] at b1; cases b1
        refine ⟨o2, e2, hv2, a3.symm, fun _ => ?_⟩
        have := b4 hv2
        rw [a2, a3]; omega
      · exfalso
        by_cases hq : q = r
        · subst hq
          rw [h1] at e; cases e
          rcases h6 with h6 | h6 <;> omega
        · obtain ⟨q3, b1, b2, b3, b4⟩ := hw.root q o2 e2
          rw [← a1, er, hq0] at b1; cases b1
          have := (a4 hq).1
          omega
    · have hq : q ≠ r := fun e' => by subst e'; rw [hr] at e2; cases e2; exact er a1
      obtain ⟨q3, b1, b2, b3, b4⟩ := hw.root q o2 e2
      have hne : o2.root ≠ r := fun e' => by rw [e', hr] at b1; cases b1; exact er (a1.trans b2.symm)
      have hg : s1.get o2'.root = s.get o2.root := by rw [a1]; exact hget _ hne (fun e' => er (a1.trans e'))
      refine ⟨o2, e2, ?_, a3.symm, fun h => absurd h er⟩
      rw [← hv']
      unfold valid
      rw [hg, (a4 hq).1, (a4 hq).2]
  refine ⟨⟨hn, ⟨?_, ?_, ?_⟩, ?_, ?_, ?_, ?_⟩, hval, hfs⟩
  · intro q hq
    rw [hn] at hq
    have n1 : q ≠ r := fun e => by subst e; have := hw.lt hr; omega
    have n2 : q ≠ o.root := fun e => by subst e; have := hw.lt hq0; omega
    rw [hget q n1 n2]; exact hw.fresh q hq
  · intro q o2' e
    obtain ⟨o2, e2, a1, a2, a3, a4⟩ := hrow q o2' e
    by_cases er : o2'.root = o.root
    · refine ⟨q1, by rw [er]; exact k1, by rw [er]; exact k4, by rw [k2]; exact (hfs q o2' e er).2, fun hv2 => ?_⟩
      obtain ⟨o3, e3, v3, w3, _⟩ := hval q o2' e hv2
      obtain ⟨q3, b1, b2, b3, b4⟩ := hw.root q o3 e3
      rw [e2] at e3; cases e3
      rw [← a1, er, hq0] at b1; cases b1
      have := b4 v3
      rw [k3, a2, a3]; omega
    · have hq : q ≠ r := fun e' => by subst e'; rw [hr] at e2; cases e2; exact er a1
      obtain ⟨q3, b1, b2, b3, b4⟩ := hw.root q o2 e2
      have hne : o2.root ≠ r := fun e' => by rw [e', hr] at b1; cases b1; exact er (a1.trans b2.symm)
      refine ⟨q3, by rw [a1, hget _ hne (fun e' => er (a1.trans e'))]; exact b1, by rw [a1]; exact b2, by rw [(a4 hq).1]; exact b3, fun hv2 => ?_⟩
      obtain ⟨o3, e3, v3, w3, _⟩ := hval q o2' e hv2
      rw [e2] at e3; cases e3
      rw [a2, a3]; exact b4 v3
  · intro q o2' e hso
    obtain ⟨o2, e2, a1, a2, a3, a4⟩ := hrow q o2' e
    have hq : q ≠ r := fun e' => by subst e'; rw [h1] at e; cases e; rw [h5] at hso; cases hso
    obtain ⟨m1, m2⟩ := hw.solo q o2 e2 ((a4 hq).2.symm.trans hso)
    refine ⟨a1.trans m1, fun r2 o3' e3 h3' => ?_⟩
    obtain ⟨o3, e4, c1, _⟩ := hrow r2 o3' e3
    exact m2 r2 o3 e4 (c1.symm.trans h3')
  · intro q o2' e
    obtain ⟨o2, e2, a1, a2, a3, _⟩ := hrow q o2' e
    exact ⟨o2, e2, a1, a2, by rw [a3]⟩
  · intro q o2' o2 e e2
    by_cases n1 : q = r
    · subst n1; rw [h1] at e; cases e; rw [hr] at e2; cases e2; exact h7
    · by_cases n2 : q = o.root
      · subst n2; rw [k1] at e; cases e; rw [hq0] at e2; cases e2; exact k8
      · rw [hget q n1 n2, e2] at e; cases e; rfl
  · intro q x hx e
    have n1 : q ≠ r := fun e' => by subst e'; rw [h1] at e; cases e; exact hx _ rfl
    have n2 : q ≠ o.root := fun e' => by subst e'; rw [k1] at e; cases e; exact hx _ rfl
    rw [hget q n1 n2] at e; exact e
  · intro q x e
    by_cases n1 : q = r
    · subst n1; exact ⟨_, h1⟩
    · by_cases n2 : q = o.root
      · subst n2; exact ⟨_, k1⟩
      · exact ⟨x, by rw [hget q n1 n2]; exact e⟩

/-- A row more of a family. -/
theorem Wf.push_family {s : St} (hw : Wf s) {root : Nat} {q : Row} (hq : s.get root = some (.row q)) (hqr : q.root = root) (hfs : ∀ q o2, s.get q = some (.row o2) → o2.root = root → o2.solo = false)
    {o : Row} (h1 : o.root = root) (h2 : o.ep = q.fep) (h3 : o.pos + o.vals.length ≤ q.ext) (h4 : o.solo = false) : Wf (s.push (.row o)) where
  fresh r hr := by
    have hr' : s.next + 1 ≤ r := hr
    rw [St.get_push, if_neg (by omega)]; exact hw.fresh r (by omega)
  root r o2 e := by
    rw [St.get_push] at e
    split at e
    · cases e
      exact ⟨q, by rw [h1, get_push_old (hw.lt hq)]; exact hq, by rw [h1]; exact hqr, by omega, fun _ => h3⟩
    · obtain ⟨q2, g1, g2, g3, g4⟩ := hw.root r o2 e
      exact ⟨q2, by rw [get_push_old (hw.lt g1)]; exact g1, g2, g3, fun hv => g4 (by rw [hw.valid_push e] at hv; exact hv)⟩
  solo r o2 e hs := by
    rw [St.get_push] at e
    split at e
    · cases e; rw [h4] at hs; cases hs
    · obtain ⟨m1, m2⟩ := hw.solo r o2 e hs
      refine ⟨m1, fun r2 o3 e3 h5 => ?_⟩
      rw [St.get_push] at e3
      split at e3
      · cases e3
        rw [h1] at h5
        subst h5
        rw [hq] at e; cases e
        have := hfs _ _ hq hqr
        rw [this] at hs; cases hs
      · exact m2 r2 o3 e3 h5

theorem append_family {P : Program} {E : Env} {s : St} {w : World} (h : Rel E s w) {t tx e : TypeId} (ty : TypeId) {i : TypeInfo} {z : Value} {es : Nat} (A : AppTy P t e i z es)
    {r off len n : Nat} {new : List AV} {s' : St} {a' : AV} {o q0 : Row} (hot : o.ty = e) (hr : s.get r = some (.row o)) (hv : valid s o = true) (hq0 : s.get o.root = some (.row q0))
    {b base : Nat} (hloc : E.loc r = some (b, base)) {old : List AV} (hq : cutN (len * es) off o.vals = some old)
    (ha : (let e := o.pos + off + len * es
      let f := bif Nat.ble q0.ext e then q0.fep else q0.fep + 1
      let x := e + n * es
      let ext := bif Nat.ble q0.ext x then x else q0.ext
      let s1 := bif o.root.beq r then s.set r (.row { o with solo := false, ep := (bif o.solo then q0.fep else o.ep), fep := f, ext := ext })
        else (s.set o.root (.row { q0 with fep := f, ext := ext }))
      Nx.val (.sl s1.next 0 (len + n) es false) (s1.push (.row { vals := old ++ new, root := o.root, pos := o.pos + off, ep := f, fep := 0, ext := 0, solo := false, ty := o.ty }))) = .val a' s')
    {olds : List Value} (k1 : VRL E old olds) (k2 : olds.length = len * es) (k3 : ∀ (k : Nat) (u : Value), olds[k]? = some u → w.cell? ⟨b, base + off + k, none⟩ = some u)
    {ad : Option Addr} {cap : Nat} (k4 : (Builtin.firstCells i.size len (.slice ad len cap)).run P w.drew = .ok olds.toArray w.drew) {x : Value} {news : List Value} (hnew : VRL E new news)
    (hs : Src P i.size tx x n news w) (hle : len ≤ cap) (hcap : 0 < cap → ad = some ⟨b, base + off, none⟩ ∧ base + off + cap * es ≤ E.bsz b) (hn0 : 0 < n) (hb : len + n ≤ 1073741824) :
    ∃ v' w' E', (Builtin.append_ #[t, tx] ty #[.slice ad len cap, x]).run P w = .ok v' w' ∧ Step E s w E' s' w' ∧ VR E' a' v' := by
  subst hot
  dsimp only at ha
  generalize hE : o.pos + off + len * es = e0 at ha
  generalize hF : (bif Nat.ble q0.ext e0 then q0.fep else q0.fep + 1) = f at ha
  generalize hX : (bif Nat.ble q0.ext (e0 + n * es) then e0 + n * es else q0.ext) = ext at ha
  have hf : (q0.ext ≤ e0 ∧ f = q0.fep) ∨ f = q0.fep + 1 := by
    rcases Bool.eq_false_or_eq_true (Nat.ble q0.ext e0) with h1 | h1
    · rw [cond_of_true h1] at hF; exact .inl ⟨Nat.le_of_ble_eq_true h1, hF.symm⟩
    · rw [cond_of_false h1] at hF; exact .inr hF.symm
  have hext : q0.ext ≤ ext ∧ e0 + n * es ≤ ext := by
    rcases Bool.eq_false_or_eq_true (Nat.ble q0.ext (e0 + n * es)) with h1 | h1
    · rw [cond_of_true h1] at hX; have := Nat.le_of_ble_eq_true h1; omega
    · rw [cond_of_false h1] at hX
      have h2 : ¬ q0.ext ≤ e0 + n * es := fun h3 => by rw [Nat.ble_eq_true_of_le h3] at h1; cases h1
      omega
  generalize hS : (bif o.root.beq r then s.set r (.row { o with solo := false, ep := (bif o.solo then q0.fep else o.ep), fep := f, ext := ext }) else (s.set o.root (.row { q0 with fep := f, ext := ext }))) = s1 at ha
  injection ha with ha1 ha2
  subst ha1 ha2
  have hw := h.wf
  obtain ⟨q00, y1, y2, _, _⟩ := hw.root r o hr
  rw [hq0] at y1; cases y1
  have hn : s1.next = s.next := by
    rcases Bool.eq_false_or_eq_true (o.root.beq r) with h1 | h1
    · rw [cond_of_true h1] at hS; subst hS; rfl
    · rw [cond_of_false h1] at hS; subst hS; rfl
  have hself : ∃ o1, s1.get r = some (.row o1) ∧ o1.root = o.root ∧ o1.pos = o.pos ∧ o1.vals = o.vals ∧ o1.solo = false ∧ (o1.ep = q0.fep ∨ o1.ep = o.ep) ∧ o1.ty = o.ty := by
    rcases Bool.eq_false_or_eq_true (o.root.beq r) with h1 | h1
    · rw [cond_of_true h1] at hS; subst hS
      refine ⟨_, St.get_set_same _ _ _, rfl, rfl, rfl, rfl, ?_⟩
      rcases Bool.eq_false_or_eq_true o.solo with h2 | h2
      · exact ⟨.inl (cond_of_true h2), rfl⟩
      · exact ⟨.inr (cond_of_false h2), rfl⟩
    · have hne : o.root ≠ r := fun e => by rw [e] at h1; simp at h1
      rw [cond_of_false h1] at hS; subst hS
      refine ⟨o, by rw [St.get_set_ne _ _ hne]; exact hr, rfl, rfl, rfl, ?_, .inr rfl, rfl⟩
      cases hso : o.solo with
      | false => rfl
      | true => exact absurd (hw.solo r o hr hso).1 hne
  have hrt : ∃ q1, s1.get o.root = some (.row q1) ∧ q1.fep = f ∧ q1.ext = ext ∧ q1.root = o.root ∧ q1.pos = q0.pos ∧ q1.vals = q0.vals ∧ (o.root ≠ r → q1.ep = q0.ep ∧ q1.solo = q0.solo) ∧ q1.ty = q0.ty := by
    rcases Bool.eq_false_or_eq_true (o.root.beq r) with h1 | h1
    · have hroot := Nat.eq_of_beq_eq_true h1
      rw [cond_of_true h1] at hS; subst hS
      have hqo : q0 = o := by rw [hroot, hr] at hq0; cases hq0; rfl
      subst hqo
      exact ⟨_, (congrArg (St.get _) hroot).trans (St.get_set_same _ _ _), rfl, rfl, rfl, rfl, rfl, fun h => absurd hroot h, rfl⟩
    · rw [cond_of_false h1] at hS; subst hS
      exact ⟨_, St.get_set_same _ _ _, rfl, rfl, y2, rfl, rfl, fun _ => ⟨rfl, rfl⟩, rfl⟩
  have hget : ∀ q, q ≠ r → q ≠ o.root → s1.get q = s.get q := by
    intro q n1 n2
    rcases Bool.eq_false_or_eq_true (o.root.beq r) with h1 | h1
    · rw [cond_of_true h1] at hS; subst hS; exact St.get_set_ne _ _ (fun e => n1 e.symm)
    · rw [cond_of_false h1] at hS; subst hS; exact St.get_set_ne _ _ (fun e => n2 e.symm)
  obtain ⟨halike, hval, hfs⟩ := append_meta hw hr hv hq0 hf hext.1 hn hself hrt hget
  clear hS hF hX
  obtain ⟨q1, z1, z2, z3, z4, z5, z6, z7⟩ := hrt
  have hol : old.length = len * es := cutN_len hq
  have hnl : new.length = n * es := by rw [hnew.length, hs.newsLen, A.size]
  have hwp : Wf (s1.push (.row { vals := old ++ new, root := o.root, pos := o.pos + off, ep := f, fep := 0, ext := 0, solo := false, ty := o.ty })) :=
    halike.wf.push_family z1 z4 (fun q o2 e1 e2 => (hfs q o2 e1 e2).1) rfl z2.symm (by simp only [List.length_append, hol, hnl, z3]; omega) rfl
  -- the block of the old row
  obtain ⟨c, cty, fz, g1, g2, g3, g4⟩ := h.row r o b base hr hloc
  obtain ⟨hfz, hcty⟩ := (g4 hv).1
  subst hfz
  have hhid : ∀ n2 d, s.get n2 = some (.hid d) → ∃ d', (s1.push (.row { vals := old ++ new, root := o.root, pos := o.pos + off, ep := f, fep := 0, ext := 0, solo := false, ty := o.ty })).get n2 = some (.hid d') := by
    intro n2 d e
    have h1 := halike.hid e
    exact ⟨d, by rw [get_push_old (halike.wf.lt h1)]; exact h1⟩
  have hun : ∀ q, q < s.next → E.loc q = none → (∀ o, s.get q = some (.row o) → o.solo = true) → (∀ d, s.get q ≠ some (.hid d)) →
      (s1.push (.row { vals := old ++ new, root := o.root, pos := o.pos + off, ep := f, fep := 0, ext := 0, solo := false, ty := o.ty })).get q = s.get q := by
    intro q hq1 hq2 hq3 _
    have n1 : q ≠ r := fun e => by subst e; rw [hloc] at hq2; cases hq2
    rw [get_push_old (by rw [hn]; exact hq1)]
    by_cases n2 : q = o.root
    · rw [← n2] at hq0
      exact absurd ((hw.solo q q0 hq0 (hq3 q0 hq0)).2 r o hr n2.symm).symm n1
    · exact hget q n1 n2
  have hnext : s.next ≤ (s1.push (.row { vals := old ++ new, root := o.root, pos := o.pos + off, ep := f, fep := 0, ext := 0, solo := false, ty := o.ty })).next := by
    rw [St.next_push, hn]; omega
  have hvr : VRL E (old ++ new) (olds ++ news) := k1.append hnew
  by_cases hroom : len + n ≤ cap
  · -- in place
    obtain ⟨ha1, ha2⟩ := hcap (by omega)
    subst ha1
    have hmul : (len + n) * es ≤ cap * es := Nat.mul_le_mul_right _ hroom
    have hnl2 : news.length = n * es := by rw [← hnew.length]; exact hnl
    have hfit : base + off + len * es + news.length ≤ c.size := by rw [g2, hnl2]; rw [Nat.add_mul] at hmul; omega
    have hrun := run_append_room_src (P := P) w t tx ty o.ty i A.ht A.hi b (base + off) len cap x n news hs hroom
      (fun j hj => by rw [A.size]; simp [World.cell?, g1]; omega) (fun j hj => by simp [World.frozen?, g1])
    rw [A.size, setCells_setRow P g1 hfit hs.one] at hrun
    generalize hc' : (c.toList.take (base + off + len * es) ++ news ++ c.toList.drop (base + off + len * es + news.length)).toArray = c' at hrun
    have hcsz : c'.size = c.size := by
      rw [← hc']
      simp only [List.size_toArray, List.length_append, List.length_take, List.length_drop, Array.length_toList]; omega
    have hcget : ∀ k, c'[k]? = if base + off + len * es ≤ k ∧ k < base + off + len * es + news.length then news[k - (base + off + len * es)]? else c[k]? := by
      intro k
      rw [← hc']
      simp only [List.getElem?_toArray, List.append_assoc, List.getElem?_append, List.length_take, Array.length_toList, List.getElem?_take, List.getElem?_drop, Array.getElem?_toList]
      have hmin : min (base + off + len * es) c.size = base + off + len * es := by omega
      rw [hmin]
      by_cases c1 : k < base + off + len * es
      · rw [if_pos c1, if_pos c1, if_neg (by omega)]
      · rw [if_neg c1]
        by_cases c2 : k - (base + off + len * es) < news.length
        · rw [if_pos c2, if_pos (by omega)]
        · rw [if_neg c2, if_neg (by omega)]
          congr 1; omega
    -- the old row's world
    have hrel1 : Rel E s1 (w.setRow b c') := by
      refine h.block halike g1 ⟨r, base, hloc⟩ c' hcsz ?_ ?_
      · intro q o2 base2 eq el hv2
        obtain ⟨o3, e3, v3, w3, p3⟩ := hval q o2 eq hv2
        obtain ⟨c2, ty2, fz2, m1, m2, m3, m4⟩ := h.row q o3 b base2 e3 el
        rw [g1] at m1; cases m1
        obtain ⟨⟨_, hty2⟩, us, u1, u2⟩ := m4 v3
        refine ⟨by rw [halike.ty q o2 o3 eq e3]; exact hty2, us, by rw [← w3]; exact u1, fun k u hu => ?_⟩
        rw [hcget]
        have hk : k < us.length := by
          rcases Nat.lt_or_ge k us.length with h1 | h1
          · exact h1
          · rw [List.getElem?_eq_none h1] at hu; cases hu
        have hul := u1.length
        obtain ⟨x2, d1, d2, d3, d4⟩ := halike.row q o2 eq
        rw [e3] at d1; cases d1
        -- the families agree
        have hcoh : base2 + o.pos = base + o3.pos ∧ o3.root = o.root := by
          rcases h.coh q r b base2 base el hloc with h3 | ⟨p1, p2, n1, n2, n3, n4⟩
          · subst h3
            rw [hr] at e3; cases e3
            rw [hloc] at el; cases el
            exact ⟨rfl, rfl⟩
          · rw [e3] at n1; cases n1
            rw [hr] at n2; cases n2
            exact ⟨by omega, n3⟩
        have hp := p3 (d2.trans hcoh.2)
        rw [if_neg (by rw [d3, d4] at hp; omega)]
        exact u2 k u hu
      · intro q o2' b2 base2 eq el _ hv2
        obtain ⟨o3, e3, v3, w3, _⟩ := hval q o2' eq hv2
        exact ⟨o3, e3, v3, w3⟩
    have hrel2 := hrel1.push _ hwp
    have hg1' : (w.setRow b c').heap[b]? = some (.cells c' cty (0, 0)) := setRow_heap w b c c' cty (0, 0) g1
    obtain ⟨o1, hs1, hs2, hs3, hs4, _⟩ := hself
    have hr0 : (s1.push (.row { vals := old ++ new, root := o.root, pos := o.pos + off, ep := f, fep := 0, ext := 0, solo := false, ty := o.ty })).get r = some (.row o1) := by
      rw [get_push_old (halike.wf.lt hs1)]; exact hs1
    have hnone : E.loc s1.next = none := by rw [hn]; exact h.loc_fresh
    obtain ⟨hle2, hrel3⟩ := hrel2.map_old (r := s1.next) (r0 := r) (b := b) (base := base + off) (base0 := base) get_push_new hnone hr0 hloc hs2 (by rw [hs3]; simp only; omega) hg1' hcty (fun e => by have := hw.lt hq0; simp only at e; omega)
      (by simp only [List.length_append, hol, hnl]; omega) (fun _ => ⟨olds ++ news, hvr, fun k u hu => by
        rw [hcget]
        rw [List.getElem?_append] at hu
        split at hu
        · rw [if_neg (by omega)]
          have := k3 k u hu
          simpa [World.cell?, g1] using this
        · rename_i hk
          have hk2 : k - olds.length < news.length := by
            rcases Nat.lt_or_ge (k - olds.length) news.length with h1 | h1
            · exact h1
            · rw [List.getElem?_eq_none h1] at hu; cases hu
          rw [if_pos (by omega), ← hu]
          congr 1; omega⟩)
    refine ⟨_, _, _, hrun, ⟨hle2, ?_, ?_, hrel3, hun, hnext, ?_, rfl, rfl, rfl, by rw [setRow_size]; exact Nat.le_refl _, fun _ _ e => .inl e, hhid⟩, ?_⟩
    · intro q hq2; exact Env.add_ne (by omega)
    · intro q b2 base2 e2
      rcases Env.add_loc e2 with ⟨_, h3⟩ | ⟨_, h3⟩
      · cases h3; exact .inr ⟨r, base, hloc⟩
      · exact .inr ⟨q, base2, h3⟩
    · intro b2 hb2 hno _
      exact setRow_heap_ne w b b2 _ (fun e => by subst e; exact hno r base hloc)
    · refine .sl (b := b) (base := base + off) (Env.add_self _ _ _ _ _) hroom (fun h => by cases h) (fun _ => ⟨by simp, ?_⟩)
      simp only [Env.add, if_true]; omega
  · -- a new block
    have hge := grownCap_ge w (len + n) cap o.ty
    have hrun := run_append_grow_src (P := P) w t tx ty o.ty i z A.ht A.hi A.hz ad len cap olds k4 x n news hs (by omega) (by omega)
      (growslice_fits (by omega) (Nat.le_trans (Nat.mul_le_mul hb A.bytes) (by omega)))
    have hrel1 : Rel E s1 w.drew := by
      have := (h.same (w' := w.drew) rfl).block halike (b := b) (c := c) (ty := cty) g1 ⟨r, base, hloc⟩ c rfl
        (fun q o2 base2 eq el hv2 => by
          obtain ⟨o3, e3, v3, w3, _⟩ := hval q o2 eq hv2
          obtain ⟨c2, ty2, fz2, m1, m2, m3, m4⟩ := h.row q o3 b base2 e3 el
          rw [g1] at m1; cases m1
          obtain ⟨⟨_, hty2⟩, us, u1, u2⟩ := m4 v3
          exact ⟨by rw [halike.ty q o2 o3 eq e3]; exact hty2, us, by rw [← w3]; exact u1, u2⟩)
        (fun q o2' b2 base2 eq el _ hv2 => by
          obtain ⟨o3, e3, v3, w3, _⟩ := hval q o2' eq hv2
          exact ⟨o3, e3, v3, w3⟩)
      rwa [setRow_same w.drew b c cty (0, 0) g1] at this
    have hrel2 := hrel1.push _ hwp
    have hsz : ((olds ++ news).toArray ++ Builtin.zeroCells z.cells (grownCap w (len + n) cap o.ty - (len + n))).size = grownCap w (len + n) cap o.ty * es := by
      have h2 := hs.newsLen
      rw [A.size] at h2
      simp only [Array.size_append, List.size_toArray, size_zeroCells, A.zs, List.length_append, k2, h2, ← Nat.add_mul]
      congr 1; omega
    have hnone : E.loc s1.next = none := by rw [hn]; exact h.loc_fresh
    obtain ⟨hle2, hrel3⟩ := hrel2.map_new (r := s1.next) get_push_new hnone (vs := olds ++ news) hvr
      ((olds ++ news).toArray ++ Builtin.zeroCells z.cells (grownCap w (len + n) cap o.ty - (len + n)))
      (fun j v hj => by
        have hlt : j < (olds ++ news).length := by
          rcases Nat.lt_or_ge j (olds ++ news).length with h1 | h1
          · exact h1
          · rw [List.getElem?_eq_none h1] at hj; cases hj
        rw [Array.getElem?_append_left (by simpa using hlt)]
        simpa using hj)
      (by have := hvr.length; simp only; rw [this]; simp)
    refine ⟨_, _, _, hrun, ⟨hle2, ?_, ?_, hrel3, hun, hnext, fun b2 hb2 _ _ => heap_alloc_old w.drew _ b2 hb2, rfl, rfl, rfl, by simp, fun _ _ e => .inl e, hhid⟩, ?_⟩
    · intro q hq2; exact Env.add_ne (by omega)
    · intro q b2 base2 e2
      rcases Env.add_loc e2 with ⟨_, h3⟩ | ⟨_, h3⟩
      · cases h3; exact .inl (by simp)
      · exact .inr ⟨q, base2, h3⟩
    · refine .sl (base := 0) (b := w.heap.size) (by simpa using Env.add_self _ _ _ _ _) hge (fun h => by cases h) (fun _ => ⟨rfl, ?_⟩)
      rw [hsz]
      simp [Env.add]

theorem append_ok {P : Program} {E : Env} {s : St} {w : World} (h : Rel E s w) {t tx ty e : TypeId} {i : TypeInfo} {z : Value} {es : Nat} (A : AppTy P t e i z es)
    {a a' : AV} {new : List AV} {n : Nat} {s' : St} (ha : appendA e es a new n s = .val a' s') {v x : Value} (hv : VR E a v) {news : List Value} (hnew : VRL E new news)
    (hs : Src P i.size tx x n news w) {j : Nat} (hj : lenA a = some j) (hb : j + n ≤ 1073741824) :
    ∃ v' w' E', (Builtin.append_ #[t, tx] ty #[v, x]).run P w = .ok v' w' ∧ Step E s w E' s' w' ∧ VR E' a' v' := by
  have nothing : ∀ (base : Option Addr) (len cap : Nat), len ≤ cap → n = 0 → (Builtin.append_ #[t, tx] ty #[.slice base len cap, x]).run P w = .ok (.slice base len cap) w := by
    intro base len cap hle h0
    subst h0
    have h0 : news = [] := List.eq_nil_of_length_eq_zero (by simpa using hs.newsLen)
    subst h0
    exact run_append_nothing w t tx ty e i A.ht A.hi base len cap hle x hs
  cases hv with
  | lst hcs hle ht hnl hc hz =>
    rename_i cs vs len cap tight nl base
    simp only [lenA, Option.some.injEq] at hj
    subst hj
    simp only [appendA] at ha
    rcases Bool.eq_false_or_eq_true (n.beq 0) with h0 | h0
    · rw [cond_of_true h0] at ha
      cases ha
      exact ⟨_, w, E, nothing base len cap hle (Nat.eq_of_beq_eq_true h0), .refl h, .lst hcs hle ht hnl hc hz⟩
    · rw [cond_of_false h0] at ha
      have hn0 : n ≠ 0 := fun e => by subst e; simp at h0
      rcases Bool.eq_false_or_eq_true (tight && cs.length.beq (len * es)) with h1 | h1
      · rw [cond_of_true h1] at ha
        cases ha
        simp only [Bool.and_eq_true] at h1
        have hcl := Nat.eq_of_beq_eq_true h1.2
        have hcap := ht h1.1
        have hvl : vs.length = len * es := by rw [← hcs.length]; exact hcl
        have ho : (Builtin.firstCells i.size len (.slice base len cap)).run P w.drew = .ok vs.toArray w.drew := by
          refine firstCells_of (by rw [A.size]; exact hvl) (fun hp => ?_)
          obtain ⟨b, bs, e1, e2⟩ := hz (fun e => by rw [e] at hp; simp at hp)
          exact ⟨b, bs, e1, fun k u hu => by rw [show w.drew.cell? _ = w.cell? _ from rfl]; exact h.z _ _ _ (e2 k u hu)⟩
        obtain ⟨v', w', r1, r2, r3⟩ := append_new h A (ty := ty) hcs hnew ho hs hvl (by omega) hb
        exact ⟨v', w', _, r1, r2, r3 _ rfl⟩
      · rw [cond_of_false h1] at ha; cases ha
  | sl hloc hle ht hcap =>
    rename_i r b base off len es' cap tight ad
    simp only [lenA, Option.some.injEq] at hj
    subst hj
    simp only [appendA] at ha
    rcases Bool.eq_false_or_eq_true (n.beq 0) with h0 | h0
    · rw [cond_of_true h0] at ha
      cases ha
      exact ⟨_, w, E, nothing ad len cap hle (Nat.eq_of_beq_eq_true h0), .refl h, .sl hloc hle ht hcap⟩
    · rw [cond_of_false h0] at ha
      have hn0 : n ≠ 0 := fun e => by subst e; simp at h0
      rcases Bool.eq_false_or_eq_true (es.beq es') with h1 | h1
      · rw [cond_of_true h1] at ha
        have hes := Nat.eq_of_beq_eq_true h1
        subst hes
        split at ha
        · rename_i o ho
          obtain ⟨hr, hvalid⟩ := rowAt_eq ho
          rcases Bool.eq_false_or_eq_true (o.ty.beq e) with hot | hot
          rotate_left
          · rw [cond_of_false hot] at ha; cases ha
          rw [cond_of_true hot] at ha
          have hot := Nat.eq_of_beq_eq_true hot
          -- the old cells
          have hold : ∀ q, cutN (len * es) off o.vals = some q → ∃ olds, VRL E q olds ∧ olds.length = len * es ∧
              (∀ (k : Nat) (u : Value), olds[k]? = some u → w.cell? ⟨b, base + off + k, none⟩ = some u) ∧
              (Builtin.firstCells i.size len (.slice ad len cap)).run P w.drew = .ok olds.toArray w.drew := by
            intro q hq
            obtain ⟨olds, k1, k2, k3⟩ := row_cells h ho hloc hq
            refine ⟨olds, k1, k2, k3, firstCells_of (by rw [A.size]; exact k2) (fun hp => ?_)⟩
            have hc0 : 0 < cap := by
              rcases Nat.eq_zero_or_pos len with e0 | e0
              · subst e0; rw [k2] at hp; simp at hp
              · omega
            exact ⟨b, base + off, (hcap hc0).1, fun k u hu => by rw [show w.drew.cell? _ = w.cell? _ from rfl]; exact k3 k u hu⟩
          rcases Bool.eq_false_or_eq_true tight with h2 | h2
          · rw [cond_of_true h2] at ha
            split at ha
            · rename_i q hq
              cases ha
              obtain ⟨olds, k1, k2, k3, k4⟩ := hold q hq
              have hcap' := ht h2
              obtain ⟨v', w', r1, r2, r3⟩ := append_new h A (ty := ty) k1 hnew k4 hs k2 (by omega) hb
              exact ⟨v', w', _, r1, r2, r3 _ rfl⟩
            · cases ha
          · rw [cond_of_false h2] at ha
            split at ha
            · rename_i q0 hq0
              unfold appendT at ha
              split at ha
              · rename_i q hq
                obtain ⟨olds, k1, k2, k3, k4⟩ := hold q hq
                have hq' := cutN_len hq
                exact append_family h ty A (o := o) (q0 := q0) hot hr hvalid hq0 hloc hq ha k1 k2 k3 k4 hnew hs hle hcap (by omega) hb
              · cases ha
            · cases ha
        · cases ha
      · rw [cond_of_false h1] at ha; cases ha
  | _ => simp [appendA] at ha
end Go.Am
