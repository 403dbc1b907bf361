import Derived.Test.YtlibahklbbachaaGreatDoorTx1
import Derived.Deep.AppendSrc
import Derived.Deep.Upon
import Derived.Orders
import Derived.Laws.StructEq
import Derived.Laws.Strings
import Derived.Lib.Builder
import Derived.Lib.Strings
import Derived.Laws.Tables
import Derived.Laws.MakeOwn
set_option autoImplicit false
set_option maxRecDepth 100000
set_option linter.unusedSimpArgs false
set_option linter.unusedVariables false
section
namespace Go.Am
theorem setCells_setRow (P : Program) {w : World} {b o : Nat} {vs : List Value} {c : Array Value} {ty : TypeId} (hb : w.heap[b]? = some (.cells c ty (0, 0))) (hl : o + vs.length ≤ c.size)
    (h1 : ∀ v ∈ vs, v.oneCell' = true) : w.setCells b o vs = w.setRow b (c.toList.take o ++ vs ++ c.toList.drop (o + vs.length)).toArray := by
  have e1 := run_storeCells_cells (P := P) b o vs 0 w (fun j hj => by simp [World.cell?, hb]; omega) (fun j hj => by simp [World.frozen?, hb]) h1
  have e2 := run_storeCells_at P b o ty vs 0 c w hb (by omega) h1
  simp only [Nat.add_zero] at e1 e2
  rw [e1] at e2
  injection e2
structure AppTy (P : Program) (t e : TypeId) (i : TypeInfo) (z : Value) (es : Nat) : Prop where
  ht : P.underlying t = some (.slice e)
  hi : P.info? e = some i
  hz : i.zero = some z
  size : i.size = es
  zs : z.cells.size = es
  bytes : i.bytes ≤ 65536
theorem take_at {α : Type} (l : List α) (n i : Nat) (x : α) (h : (l.take n)[i]? = some x) : l[i]? = some x := by
  rw [List.getElem?_take] at h
  split at h
  · exact h
  · cases h
theorem append_new {P : Program} {E : Env} {s : St} {w : World} (h : Rel E s w) {t tx ty e : TypeId} {i : TypeInfo} {z : Value} {es : Nat} (A : AppTy P t e i z es)
    {base : Option Addr} {len cap : Nat} {old new : List AV} {olds news : List Value} (hold : VRL E old olds) (hnew : VRL E new news) {x : Value} {n : Nat}
    (ho : (Builtin.firstCells i.size len (.slice base len cap)).run P w.drew = .ok olds.toArray w.drew) (hs : Src P i.size tx x n news w) (hl : olds.length = len * es)
    (hg : cap < len + n) (hb : len + n ≤ 1073741824) :
    ∃ v' w', (Builtin.append_ #[t, tx] ty #[.slice base len cap, x]).run P w = .ok v' w' ∧
      Step E s w (E.add s.next w.heap.size 0 (grownCap w (len + n) cap e * es)) (pushRow s e (old ++ new)) w' ∧
      (∀ E', E.add s.next w.heap.size 0 (grownCap w (len + n) cap e * es) = E' → VR E' (.sl s.next 0 (len + n) es false) v') := by
  have hge := grownCap_ge w (len + n) cap e
  have hr := run_append_grow_src (P := P) w t tx ty e i z A.ht A.hi A.hz base len cap olds ho x n news hs hg (by omega)
    (growslice_fits hg (Nat.le_trans (Nat.mul_le_mul hb A.bytes) (by omega)))
  refine ⟨_, _, hr, ?_, ?_⟩
  · have hd : Rel E s w.drew := h.same rfl
    have hsz : ((olds ++ news).toArray ++ Builtin.zeroCells z.cells (grownCap w (len + n) cap e - (len + n))).size = grownCap w (len + n) cap e * es := by
      have h2 := hs.newsLen
      rw [A.size] at h2
      simp only [Array.size_append, List.size_toArray, size_zeroCells, A.zs, List.length_append, hl, h2, ← Nat.add_mul]
      congr 1; omega
    have st := Step.alloc hd (vals := old ++ new) (hold.append hnew) ((olds ++ news).toArray ++ Builtin.zeroCells z.cells (grownCap w (len + n) cap e - (len + n))) e
      (fun j v hj => by
        have hlt : j < (olds ++ news).length := by
          rcases Nat.lt_or_ge j (olds ++ news).length with h1 | h1
          · exact h1
          · rw [List.getElem?_eq_none h1] at hj; cases hj
        rw [Array.getElem?_append_left (by simpa using hlt)]
        simpa using hj)
      (by have := (hold.append hnew).length; rw [this]; simp)
    rw [hsz] at st
    have hsame : Step E s w E s w.drew := Step.same h rfl rfl rfl rfl
    exact hsame.trans st
  · rintro E' rfl
    refine .sl (base := 0) (b := w.heap.size) (Env.add_self _ _ _ _ _) hge (fun h => by cases h) (fun _ => ⟨rfl, ?_⟩) (by simp)
    simp [Env.add]
theorem firstCells_of {P : Program} {w : World} {size len cap : Nat} {a : Option Addr} {vs : List Value} (hl : vs.length = len * size)
    (h : 0 < vs.length → ∃ b off, a = some ⟨b, off, none⟩ ∧ ∀ (i : Nat) (v : Value), vs[i]? = some v → w.cell? ⟨b, off + i, none⟩ = some v) :
    (Builtin.firstCells size len (.slice a len cap)).run P w = .ok vs.toArray w := by
  cases a with
  | none =>
    have : vs = [] := by
      cases vs with
      | nil => rfl
      | cons x l => obtain ⟨b, off, e, _⟩ := h (by simp); cases e
    subst this
    exact run_firstCells_none w size len len cap
  | some a =>
    refine run_firstCells_some w size len a len cap vs hl (fun j v hj => ?_)
    have hpos : 0 < vs.length := by
      cases vs with
      | nil => simp at hj
      | cons x l => simp
    obtain ⟨b, off, e, hc⟩ := h hpos
    cases e
    rw [Addr.add_lit]
    exact hc j v hj
theorem row_cells {E : Env} {s : St} {w : World} (h : Rel E s w) {r b base : Nat} {o : Row} (hr : rowAt s r = some o) (hl : E.loc r = some (b, base)) {n off : Nat} {q : List AV}
    (hq : cutN n off o.vals = some q) : ∃ vs, VRL E q vs ∧ vs.length = n ∧ ∀ (i : Nat) (v : Value), vs[i]? = some v → w.cell? ⟨b, base + off + i, none⟩ = some v := by
  have hc : cellsAt n (.ptr r off) s = some q := by simp [cellsAt, hr, hq]
  obtain ⟨b', off', vs, e, h1, h2, h3⟩ := h.cells hc (.ptr off hl)
  cases e
  exact ⟨vs, h1, by rw [← h1.length]; exact h2, h3⟩
theorem append_meta {s s1 : St} (hw : Wf s) {r : Nat} {o q0 : Row} (hr : s.get r = some (.row o)) (hv : valid s o = true) (hq0 : s.get o.root = some (.row q0)) {e f ext : Nat}
    (hf : (q0.ext ≤ e ∧ f = q0.fep) ∨ f = q0.fep + 1) (hext : q0.ext ≤ ext) (hn : s1.next = s.next)
    (hself : ∃ o1, s1.get r = some (.row o1) ∧ o1.root = o.root ∧ o1.pos = o.pos ∧ o1.vals = o.vals ∧ o1.solo = false ∧ (o1.ep = q0.fep ∨ o1.ep = o.ep) ∧ o1.ty = o.ty)
    (hrt : ∃ q1, s1.get o.root = some (.row q1) ∧ q1.fep = f ∧ q1.ext = ext ∧ q1.root = o.root ∧ q1.pos = q0.pos ∧ q1.vals = q0.vals ∧ (o.root ≠ r → q1.ep = q0.ep ∧ q1.solo = q0.solo) ∧ q1.ty = q0.ty)
    (hget : ∀ q, q ≠ r → q ≠ o.root → s1.get q = s.get q) :
    Alike s s1 ∧ (∀ q o2', s1.get q = some (.row o2') → valid s1 o2' = true → ∃ o2, s.get q = some (.row o2) ∧ valid s o2 = true ∧ o2.vals = o2'.vals ∧ (o2'.root = o.root → o2'.pos + o2'.vals.length ≤ e)) ∧
    (∀ q o2', s1.get q = some (.row o2') → o2'.root = o.root → o2'.solo = false ∧ o2'.ep ≤ f) := by
  obtain ⟨o1, h1, h2, h3, h4, h5, h6, h7⟩ := hself
  obtain ⟨q1, k1, k2, k3, k4, k5, k6, k7, k8⟩ := hrt
  obtain ⟨q2, g1, g2, g3, g4⟩ := hw.root r o hr
  rw [hq0] at g1; cases g1
  have hff : q0.fep ≤ f := by rcases hf with ⟨_, h⟩ | h <;> omega
  -- others of the family do not stand alone
  have hfam : ∀ q o2, q ≠ r → s.get q = some (.row o2) → o2.root = o.root → o2.solo = false := by
    intro q o2 hq e er
    cases hso : o2.solo with
    | false => rfl
    | true =>
      obtain ⟨m1, m2⟩ := hw.solo q o2 e hso
      exact absurd (m2 r o hr (er.symm.trans m1)).symm hq
  have hrow : ∀ q o2', s1.get q = some (.row o2') → ∃ o2, s.get q = some (.row o2) ∧ o2'.root = o2.root ∧ o2'.pos = o2.pos ∧ o2'.vals = o2.vals ∧
      (q ≠ r → o2'.ep = o2.ep ∧ o2'.solo = o2.solo) := by
    intro q o2' e
    by_cases hq : q = r
    · subst hq
      rw [h1] at e; cases e
      exact ⟨o, hr, h2, h3, h4, fun h => absurd rfl h⟩
    · by_cases hq2 : q = o.root
      · subst hq2
        rw [k1] at e; cases e
        exact ⟨q0, hq0, k4.trans g2.symm, k5, k6, fun _ => k7 (fun e' => hq e')⟩
      · rw [hget q hq hq2] at e
        exact ⟨o2', e, rfl, rfl, rfl, fun _ => ⟨rfl, rfl⟩⟩
  have hfs : ∀ q o2', s1.get q = some (.row o2') → o2'.root = o.root → o2'.solo = false ∧ o2'.ep ≤ f := by
    intro q o2' e er
    obtain ⟨o2, e2, a1, a2, a3, a4⟩ := hrow q o2' e
    by_cases hq : q = r
    · subst hq
      rw [h1] at e; cases e
      refine ⟨h5, ?_⟩
      rcases h6 with h6 | h6 <;> omega
    · have hso := hfam q o2 hq e2 (a1.symm.trans er)
      obtain ⟨q3, b1, b2, b3, b4⟩ := hw.root q o2 e2
      rw [a1.symm.trans er, hq0] at b1; cases b1
      exact ⟨(a4 hq).2.trans hso, by have := (a4 hq).1; omega⟩
  have hval : ∀ q o2', s1.get q = some (.row o2') → valid s1 o2' = true → ∃ o2, s.get q = some (.row o2) ∧ valid s o2 = true ∧ o2.vals = o2'.vals ∧ (o2'.root = o.root → o2'.pos + o2'.vals.length ≤ e) := by
    intro q o2' e hv'
    obtain ⟨o2, e2, a1, a2, a3, a4⟩ := hrow q o2' e
    by_cases er : o2'.root = o.root
    · obtain ⟨c1, c2⟩ := hfs q o2' e er
      rw [valid_multi c1 (by rw [er]; exact k1)] at hv'
      have hep := Nat.eq_of_beq_eq_true hv'
      rcases hf with ⟨hf1, hf2⟩ | hf1
      · have hv2 : valid s o2 = true := by
          by_cases hq : q = r
          · subst hq; rw [hr] at e2; cases e2; exact hv
          · rw [valid_multi (hfam q o2 hq e2 (a1.symm.trans er)) (by rw [← a1, er]; exact hq0)]
            have := (a4 hq).1
            rw [show o2.ep = q0.fep by omega]
            simp
        obtain ⟨q3, b1, b2, b3, b4⟩ := hw.root q o2 e2
        rw [← a1, er, hq0] at b1; cases b1
        refine ⟨o2, e2, hv2, a3.symm, fun _ => ?_⟩
        have := b4 hv2
        rw [a2, a3]; omega
      · exfalso
        by_cases hq : q = r
        · subst hq
          rw [h1] at e; cases e
          rcases h6 with h6 | h6 <;> omega
        · obtain ⟨q3, b1, b2, b3, b4⟩ := hw.root q o2 e2
          rw [← a1, er, hq0] at b1; cases b1
          have := (a4 hq).1
          omega
    · have hq : q ≠ r := fun e' => by subst e'; rw [hr] at e2; cases e2; exact er a1
      obtain ⟨q3, b1, b2, b3, b4⟩ := hw.root q o2 e2
      have hne : o2.root ≠ r := fun e' => by rw [e', hr] at b1; cases b1; exact er (a1.trans b2.symm)
      have hg : s1.get o2'.root = s.get o2.root := by rw [a1]; exact hget _ hne (fun e' => er (a1.trans e'))
      refine ⟨o2, e2, ?_, a3.symm, fun h => absurd h er⟩
      rw [← hv']
      unfold valid
      rw [hg, (a4 hq).1, (a4 hq).2]
  refine ⟨⟨hn, ⟨?_, ?_, ?_, fun q o2' e => by obtain ⟨o2, e2, a1, _⟩ := hrow q o2' e; rw [a1]; exact hw.rle q o2 e2⟩, ?_, ?_, ?_, ?_⟩, hval, hfs⟩
  · intro q hq
    rw [hn] at hq
    have n1 : q ≠ r := fun e => by subst e; have := hw.lt hr; omega
    have n2 : q ≠ o.root := fun e => by subst e; have := hw.lt hq0; omega
    rw [hget q n1 n2]; exact hw.fresh q hq
  · intro q o2' e
    obtain ⟨o2, e2, a1, a2, a3, a4⟩ := hrow q o2' e
    by_cases er : o2'.root = o.root
    · refine ⟨q1, by rw [er]; exact k1, by rw [er]; exact k4, by rw [k2]; exact (hfs q o2' e er).2, fun hv2 => ?_⟩
      obtain ⟨o3, e3, v3, w3, _⟩ := hval q o2' e hv2
      obtain ⟨q3, b1, b2, b3, b4⟩ := hw.root q o3 e3
      rw [e2] at e3; cases e3
      rw [← a1, er, hq0] at b1; cases b1
      have := b4 v3
      rw [k3, a2, a3]; omega
    · have hq : q ≠ r := fun e' => by subst e'; rw [hr] at e2; cases e2; exact er a1
      obtain ⟨q3, b1, b2, b3, b4⟩ := hw.root q o2 e2
      have hne : o2.root ≠ r := fun e' => by rw [e', hr] at b1; cases b1; exact er (a1.trans b2.symm)
      refine ⟨q3, by rw [a1, hget _ hne (fun e' => er (a1.trans e'))]; exact b1, by rw [a1]; exact b2, by rw [(a4 hq).1]; exact b3, fun hv2 => ?_⟩
      obtain ⟨o3, e3, v3, w3, _⟩ := hval q o2' e hv2
      rw [e2] at e3; cases e3
      rw [a2, a3]; exact b4 v3
  · intro q o2' e hso
    obtain ⟨o2, e2, a1, a2, a3, a4⟩ := hrow q o2' e
    have hq : q ≠ r := fun e' => by subst e'; rw [h1] at e; cases e; rw [h5] at hso; cases hso
    obtain ⟨m1, m2⟩ := hw.solo q o2 e2 ((a4 hq).2.symm.trans hso)
    refine ⟨a1.trans m1, fun r2 o3' e3 h3' => ?_⟩
    obtain ⟨o3, e4, c1, _⟩ := hrow r2 o3' e3
    exact m2 r2 o3 e4 (c1.symm.trans h3')
  · intro q o2' e
    obtain ⟨o2, e2, a1, a2, a3, _⟩ := hrow q o2' e
    exact ⟨o2, e2, a1, a2, by rw [a3]⟩
  · intro q o2' o2 e e2
    by_cases n1 : q = r
    · subst n1; rw [h1] at e; cases e; rw [hr] at e2; cases e2; exact h7
    · by_cases n2 : q = o.root
      · subst n2; rw [k1] at e; cases e; rw [hq0] at e2; cases e2; exact k8
      · rw [hget q n1 n2, e2] at e; cases e; rfl
  · intro q x hx e
    have n1 : q ≠ r := fun e' => by subst e'; rw [h1] at e; cases e; exact hx _ rfl
    have n2 : q ≠ o.root := fun e' => by subst e'; rw [k1] at e; cases e; exact hx _ rfl
    rw [hget q n1 n2] at e; exact e
  · intro q x e
    by_cases n1 : q = r
    · subst n1; exact ⟨_, h1⟩
    · by_cases n2 : q = o.root
      · subst n2; exact ⟨_, k1⟩
      · exact ⟨x, by rw [hget q n1 n2]; exact e⟩
theorem Wf.push_family {s : St} (hw : Wf s) {root : Nat} {q : Row} (hq : s.get root = some (.row q)) (hqr : q.root = root) (hfs : ∀ q o2, s.get q = some (.row o2) → o2.root = root → o2.solo = false)
    {o : Row} (h1 : o.root = root) (h2 : o.ep = q.fep) (h3 : o.pos + o.vals.length ≤ q.ext) (h4 : o.solo = false) : Wf (s.push (.row o)) where
  fresh r hr := by
    have hr' : s.next + 1 ≤ r := hr
    rw [St.get_push, if_neg (by omega)]; exact hw.fresh r (by omega)
  root r o2 e := by
    rw [St.get_push] at e
    split at e
    · cases e
      exact ⟨q, by rw [h1, get_push_old (hw.lt hq)]; exact hq, by rw [h1]; exact hqr, by omega, fun _ => h3⟩
    · obtain ⟨q2, g1, g2, g3, g4⟩ := hw.root r o2 e
      exact ⟨q2, by rw [get_push_old (hw.lt g1)]; exact g1, g2, g3, fun hv => g4 (by rw [hw.valid_push e] at hv; exact hv)⟩
  solo r o2 e hs := by
    rw [St.get_push] at e
    split at e
    · cases e; rw [h4] at hs; cases hs
    · obtain ⟨m1, m2⟩ := hw.solo r o2 e hs
      refine ⟨m1, fun r2 o3 e3 h5 => ?_⟩
      rw [St.get_push] at e3
      split at e3
      · cases e3
        rw [h1] at h5
        subst h5
        rw [hq] at e; cases e
        have := hfs _ _ hq hqr
        rw [this] at hs; cases hs
      · exact m2 r2 o3 e3 h5
  rle r o2 e := by
    rw [St.get_push] at e
    split at e
    · rename_i hr
      cases e
      rw [h1, ← hr]; exact Nat.le_of_lt (hw.lt hq)
    · exact hw.rle r o2 e
theorem append_family {P : Program} {E : Env} {s : St} {w : World} (h : Rel E s w) {t tx e : TypeId} (ty : TypeId) {i : TypeInfo} {z : Value} {es : Nat} (A : AppTy P t e i z es)
    {r off len n : Nat} {new : List AV} {s' : St} {a' : AV} {o q0 : Row} (hot : o.ty = e) (hr : s.get r = some (.row o)) (hv : valid s o = true) (hq0 : s.get o.root = some (.row q0))
    {b base : Nat} (hloc : E.loc r = some (b, base)) {old : List AV} (hq : cutN (len * es) off o.vals = some old)
    (ha : (let e := o.pos + off + len * es
      let f := bif Nat.ble q0.ext e then q0.fep else q0.fep + 1
      let x := e + n * es
      let ext := bif Nat.ble q0.ext x then x else q0.ext
      let s1 := bif o.root.beq r then s.set r (.row { o with solo := false, ep := (bif o.solo then q0.fep else o.ep), fep := f, ext := ext })
        else (s.set o.root (.row { q0 with fep := f, ext := ext }))
      Nx.val (.sl s1.next 0 (len + n) es false) (s1.push (.row { vals := old ++ new, root := o.root, pos := o.pos + off, ep := f, fep := 0, ext := 0, solo := false, ty := o.ty }))) = .val a' s')
    {olds : List Value} (k1 : VRL E old olds) (k2 : olds.length = len * es) (k3 : ∀ (k : Nat) (u : Value), olds[k]? = some u → w.cell? ⟨b, base + off + k, none⟩ = some u)
    {ad : Option Addr} {cap : Nat} (k4 : (Builtin.firstCells i.size len (.slice ad len cap)).run P w.drew = .ok olds.toArray w.drew) {x : Value} {news : List Value} (hnew : VRL E new news)
    (hs : Src P i.size tx x n news w) (hle : len ≤ cap) (hcap : 0 < cap → ad = some ⟨b, base + off, none⟩ ∧ base + off + cap * es ≤ E.bsz b) (hn0 : 0 < n) (hb : len + n ≤ 1073741824) :
    ∃ v' w' E', (Builtin.append_ #[t, tx] ty #[.slice ad len cap, x]).run P w = .ok v' w' ∧ Step E s w E' s' w' ∧ VR E' a' v' := by
  subst hot
  dsimp only at ha
  generalize hE : o.pos + off + len * es = e0 at ha
  generalize hF : (bif Nat.ble q0.ext e0 then q0.fep else q0.fep + 1) = f at ha
  generalize hX : (bif Nat.ble q0.ext (e0 + n * es) then e0 + n * es else q0.ext) = ext at ha
  have hf : (q0.ext ≤ e0 ∧ f = q0.fep) ∨ f = q0.fep + 1 := by
    rcases Bool.eq_false_or_eq_true (Nat.ble q0.ext e0) with h1 | h1
    · rw [cond_of_true h1] at hF; exact .inl ⟨Nat.le_of_ble_eq_true h1, hF.symm⟩
    · rw [cond_of_false h1] at hF; exact .inr hF.symm
  have hext : q0.ext ≤ ext ∧ e0 + n * es ≤ ext := by
    rcases Bool.eq_false_or_eq_true (Nat.ble q0.ext (e0 + n * es)) with h1 | h1
    · rw [cond_of_true h1] at hX; have := Nat.le_of_ble_eq_true h1; omega
    · rw [cond_of_false h1] at hX
      have h2 : ¬ q0.ext ≤ e0 + n * es := fun h3 => by rw [Nat.ble_eq_true_of_le h3] at h1; cases h1
      omega
  generalize hS : (bif o.root.beq r then s.set r (.row { o with solo := false, ep := (bif o.solo then q0.fep else o.ep), fep := f, ext := ext }) else (s.set o.root (.row { q0 with fep := f, ext := ext }))) = s1 at ha
  injection ha with ha1 ha2
  subst ha1 ha2
  have hw := h.wf
  obtain ⟨q00, y1, y2, _, _⟩ := hw.root r o hr
  rw [hq0] at y1; cases y1
  have hn : s1.next = s.next := by
    rcases Bool.eq_false_or_eq_true (o.root.beq r) with h1 | h1
    · rw [cond_of_true h1] at hS; subst hS; rfl
    · rw [cond_of_false h1] at hS; subst hS; rfl
  have hself : ∃ o1, s1.get r = some (.row o1) ∧ o1.root = o.root ∧ o1.pos = o.pos ∧ o1.vals = o.vals ∧ o1.solo = false ∧ (o1.ep = q0.fep ∨ o1.ep = o.ep) ∧ o1.ty = o.ty := by
    rcases Bool.eq_false_or_eq_true (o.root.beq r) with h1 | h1
    · rw [cond_of_true h1] at hS; subst hS
      refine ⟨_, St.get_set_same _ _ _, rfl, rfl, rfl, rfl, ?_⟩
      rcases Bool.eq_false_or_eq_true o.solo with h2 | h2
      · exact ⟨.inl (cond_of_true h2), rfl⟩
      · exact ⟨.inr (cond_of_false h2), rfl⟩
    · have hne : o.root ≠ r := fun e => by rw [e] at h1; simp at h1
      rw [cond_of_false h1] at hS; subst hS
      refine ⟨o, by rw [St.get_set_ne _ _ hne]; exact hr, rfl, rfl, rfl, ?_, .inr rfl, rfl⟩
      cases hso : o.solo with
      | false => rfl
      | true => exact absurd (hw.solo r o hr hso).1 hne
  have hrt : ∃ q1, s1.get o.root = some (.row q1) ∧ q1.fep = f ∧ q1.ext = ext ∧ q1.root = o.root ∧ q1.pos = q0.pos ∧ q1.vals = q0.vals ∧ (o.root ≠ r → q1.ep = q0.ep ∧ q1.solo = q0.solo) ∧ q1.ty = q0.ty := by
    rcases Bool.eq_false_or_eq_true (o.root.beq r) with h1 | h1
    · have hroot := Nat.eq_of_beq_eq_true h1
      rw [cond_of_true h1] at hS; subst hS
      have hqo : q0 = o := by rw [hroot, hr] at hq0; cases hq0; rfl
      subst hqo
      exact ⟨_, (congrArg (St.get _) hroot).trans (St.get_set_same _ _ _), rfl, rfl, rfl, rfl, rfl, fun h => absurd hroot h, rfl⟩
    · rw [cond_of_false h1] at hS; subst hS
      exact ⟨_, St.get_set_same _ _ _, rfl, rfl, y2, rfl, rfl, fun _ => ⟨rfl, rfl⟩, rfl⟩
  have hget : ∀ q, q ≠ r → q ≠ o.root → s1.get q = s.get q := by
    intro q n1 n2
    rcases Bool.eq_false_or_eq_true (o.root.beq r) with h1 | h1
    · rw [cond_of_true h1] at hS; subst hS; exact St.get_set_ne _ _ (fun e => n1 e.symm)
    · rw [cond_of_false h1] at hS; subst hS; exact St.get_set_ne _ _ (fun e => n2 e.symm)
  obtain ⟨halike, hval, hfs⟩ := append_meta hw hr hv hq0 hf hext.1 hn hself hrt hget
  clear hS hF hX
  obtain ⟨q1, z1, z2, z3, z4, z5, z6, z7⟩ := hrt
  have hol : old.length = len * es := cutN_len hq
  have hnl : new.length = n * es := by rw [hnew.length, hs.newsLen, A.size]
  have hwp : Wf (s1.push (.row { vals := old ++ new, root := o.root, pos := o.pos + off, ep := f, fep := 0, ext := 0, solo := false, ty := o.ty })) :=
    halike.wf.push_family z1 z4 (fun q o2 e1 e2 => (hfs q o2 e1 e2).1) rfl z2.symm (by simp only [List.length_append, hol, hnl, z3]; omega) rfl
  -- the block of the old row
  obtain ⟨c, cty, fz, g1, g2, g3, g4⟩ := h.row r o b base hr hloc
  obtain ⟨hfz, hcty⟩ := (g4 hv).1
  subst hfz
  have hhid : ∀ n2 d, s.get n2 = some (.hid d) → ∃ d', (s1.push (.row { vals := old ++ new, root := o.root, pos := o.pos + off, ep := f, fep := 0, ext := 0, solo := false, ty := o.ty })).get n2 = some (.hid d') := by
    intro n2 d e
    have h1 := halike.hid e
    exact ⟨d, by rw [get_push_old (halike.wf.lt h1)]; exact h1⟩
  have hun : ∀ q, q < s.next → E.loc q = none → (∀ o, s.get q = some (.row o) → o.solo = true) → (∀ d, s.get q ≠ some (.hid d)) →
      (s1.push (.row { vals := old ++ new, root := o.root, pos := o.pos + off, ep := f, fep := 0, ext := 0, solo := false, ty := o.ty })).get q = s.get q := by
    intro q hq1 hq2 hq3 _
    have n1 : q ≠ r := fun e => by subst e; rw [hloc] at hq2; cases hq2
    rw [get_push_old (by rw [hn]; exact hq1)]
    by_cases n2 : q = o.root
    · rw [← n2] at hq0
      exact absurd ((hw.solo q q0 hq0 (hq3 q0 hq0)).2 r o hr n2.symm).symm n1
    · exact hget q n1 n2
  have hnext : s.next ≤ (s1.push (.row { vals := old ++ new, root := o.root, pos := o.pos + off, ep := f, fep := 0, ext := 0, solo := false, ty := o.ty })).next := by
    rw [St.next_push, hn]; omega
  have hvr : VRL E (old ++ new) (olds ++ news) := k1.append hnew
  by_cases hroom : len + n ≤ cap
  · -- in place
    obtain ⟨ha1, ha2⟩ := hcap (by omega)
    subst ha1
    have hmul : (len + n) * es ≤ cap * es := Nat.mul_le_mul_right _ hroom
    have hnl2 : news.length = n * es := by rw [← hnew.length]; exact hnl
    have hfit : base + off + len * es + news.length ≤ c.size := by rw [g2, hnl2]; rw [Nat.add_mul] at hmul; omega
    have hrun := run_append_room_src (P := P) w t tx ty o.ty i A.ht A.hi b (base + off) len cap x n news hs hroom
      (fun j hj => by rw [A.size]; simp [World.cell?, g1]; omega) (fun j hj => by simp [World.frozen?, g1])
    rw [A.size, setCells_setRow P g1 hfit hs.one] at hrun
    generalize hc' : (c.toList.take (base + off + len * es) ++ news ++ c.toList.drop (base + off + len * es + news.length)).toArray = c' at hrun
    have hcsz : c'.size = c.size := by
      rw [← hc']
      simp only [List.size_toArray, List.length_append, List.length_take, List.length_drop, Array.length_toList]; omega
    have hcget : ∀ k, c'[k]? = if base + off + len * es ≤ k ∧ k < base + off + len * es + news.length then news[k - (base + off + len * es)]? else c[k]? := by
      intro k
      rw [← hc']
      simp only [List.getElem?_toArray, List.append_assoc, List.getElem?_append, List.length_take, Array.length_toList, List.getElem?_take, List.getElem?_drop, Array.getElem?_toList]
      have hmin : min (base + off + len * es) c.size = base + off + len * es := by omega
      rw [hmin]
      by_cases c1 : k < base + off + len * es
      · rw [if_pos c1, if_pos c1, if_neg (by omega)]
      · rw [if_neg c1]
        by_cases c2 : k - (base + off + len * es) < news.length
        · rw [if_pos c2, if_pos (by omega)]
        · rw [if_neg c2, if_neg (by omega)]
          congr 1; omega
    -- the old row's world
    have hrel1 : Rel E s1 (w.setRow b c') := by
      refine h.block halike g1 ⟨r, base, hloc⟩ c' hcsz ?_ ?_
      · intro q o2 base2 eq el hv2
        obtain ⟨o3, e3, v3, w3, p3⟩ := hval q o2 eq hv2
        obtain ⟨c2, ty2, fz2, m1, m2, m3, m4⟩ := h.row q o3 b base2 e3 el
        rw [g1] at m1; cases m1
        obtain ⟨⟨_, hty2⟩, us, u1, u2⟩ := m4 v3
        refine ⟨by rw [halike.ty q o2 o3 eq e3]; exact hty2, us, by rw [← w3]; exact u1, fun k u hu => ?_⟩
        rw [hcget]
        have hk : k < us.length := by
          rcases Nat.lt_or_ge k us.length with h1 | h1
          · exact h1
          · rw [List.getElem?_eq_none h1] at hu; cases hu
        have hul := u1.length
        obtain ⟨x2, d1, d2, d3, d4⟩ := halike.row q o2 eq
        rw [e3] at d1; cases d1
        -- the families agree
        have hcoh : base2 + o.pos = base + o3.pos ∧ o3.root = o.root := by
          rcases h.coh q r b base2 base el hloc with h3 | ⟨p1, p2, n1, n2, n3, n4⟩
          · subst h3
            rw [hr] at e3; cases e3
            rw [hloc] at el; cases el
            exact ⟨rfl, rfl⟩
          · rw [e3] at n1; cases n1
            rw [hr] at n2; cases n2
            exact ⟨by omega, n3⟩
        have hp := p3 (d2.trans hcoh.2)
        rw [if_neg (by rw [d3, d4] at hp; omega)]
        exact u2 k u hu
      · intro q o2' b2 base2 eq el _ hv2
        obtain ⟨o3, e3, v3, w3, _⟩ := hval q o2' eq hv2
        exact ⟨o3, e3, v3, w3⟩
    have hrel2 := hrel1.push _ hwp
    have hg1' : (w.setRow b c').heap[b]? = some (.cells c' cty (0, 0)) := setRow_heap w b c c' cty (0, 0) g1
    obtain ⟨o1, hs1, hs2, hs3, hs4, _⟩ := hself
    have hr0 : (s1.push (.row { vals := old ++ new, root := o.root, pos := o.pos + off, ep := f, fep := 0, ext := 0, solo := false, ty := o.ty })).get r = some (.row o1) := by
      rw [get_push_old (halike.wf.lt hs1)]; exact hs1
    have hnone : E.loc s1.next = none := by rw [hn]; exact h.loc_fresh
    obtain ⟨hle2, hrel3⟩ := hrel2.map_old (r := s1.next) (r0 := r) (b := b) (base := base + off) (base0 := base) get_push_new hnone hr0 hloc hs2 (by rw [hs3]; simp only; omega) hg1' hcty (fun e => by have := hw.lt hq0; simp only at e; omega)
      (by simp only [List.length_append, hol, hnl]; omega) (fun _ => ⟨olds ++ news, hvr, fun k u hu => by
        rw [hcget]
        rw [List.getElem?_append] at hu
        split at hu
        · rw [if_neg (by omega)]
          have := k3 k u hu
          simpa [World.cell?, g1] using this
        · rename_i hk
          have hk2 : k - olds.length < news.length := by
            rcases Nat.lt_or_ge (k - olds.length) news.length with h1 | h1
            · exact h1
            · rw [List.getElem?_eq_none h1] at hu; cases hu
          rw [if_pos (by omega), ← hu]
          congr 1; omega⟩)
    refine ⟨_, _, _, hrun, ⟨hle2, ?_, ?_, hrel3, hun, hnext, ?_, rfl, rfl, rfl, by rw [setRow_size]; exact Nat.le_refl _, fun _ _ e => .inl e, hhid, fun _ _ _ e => .inl e⟩, ?_⟩
    · intro q hq2; exact Env.add_ne (by omega)
    · intro q b2 base2 e2
      rcases Env.add_loc e2 with ⟨_, h3⟩ | ⟨_, h3⟩
      · cases h3; exact .inr ⟨r, base, hloc⟩
      · exact .inr ⟨q, base2, h3⟩
    · intro b2 hb2 hno _
      exact setRow_heap_ne w b b2 _ (fun e => by subst e; exact hno r base hloc)
    · refine .sl (b := b) (base := base + off) (Env.add_self _ _ _ _ _) hroom (fun h => by cases h) (fun _ => ⟨by simp, ?_⟩) (by simp)
      simp only [Env.add, if_true]; omega
  · -- a new block
    have hge := grownCap_ge w (len + n) cap o.ty
    have hrun := run_append_grow_src (P := P) w t tx ty o.ty i z A.ht A.hi A.hz ad len cap olds k4 x n news hs (by omega) (by omega)
      (growslice_fits (by omega) (Nat.le_trans (Nat.mul_le_mul hb A.bytes) (by omega)))
    have hrel1 : Rel E s1 w.drew := by
      have := (h.same (w' := w.drew) rfl).block halike (b := b) (c := c) (ty := cty) g1 ⟨r, base, hloc⟩ c rfl
        (fun q o2 base2 eq el hv2 => by
          obtain ⟨o3, e3, v3, w3, _⟩ := hval q o2 eq hv2
          obtain ⟨c2, ty2, fz2, m1, m2, m3, m4⟩ := h.row q o3 b base2 e3 el
          rw [g1] at m1; cases m1
          obtain ⟨⟨_, hty2⟩, us, u1, u2⟩ := m4 v3
          exact ⟨by rw [halike.ty q o2 o3 eq e3]; exact hty2, us, by rw [← w3]; exact u1, u2⟩)
        (fun q o2' b2 base2 eq el _ hv2 => by
          obtain ⟨o3, e3, v3, w3, _⟩ := hval q o2' eq hv2
          exact ⟨o3, e3, v3, w3⟩)
      rwa [setRow_same w.drew b c cty (0, 0) g1] at this
    have hrel2 := hrel1.push _ hwp
    have hsz : ((olds ++ news).toArray ++ Builtin.zeroCells z.cells (grownCap w (len + n) cap o.ty - (len + n))).size = grownCap w (len + n) cap o.ty * es := by
      have h2 := hs.newsLen
      rw [A.size] at h2
      simp only [Array.size_append, List.size_toArray, size_zeroCells, A.zs, List.length_append, k2, h2, ← Nat.add_mul]
      congr 1; omega
    have hnone : E.loc s1.next = none := by rw [hn]; exact h.loc_fresh
    obtain ⟨hle2, hrel3⟩ := hrel2.map_new (r := s1.next) get_push_new hnone (vs := olds ++ news) hvr
      ((olds ++ news).toArray ++ Builtin.zeroCells z.cells (grownCap w (len + n) cap o.ty - (len + n)))
      (fun j v hj => by
        have hlt : j < (olds ++ news).length := by
          rcases Nat.lt_or_ge j (olds ++ news).length with h1 | h1
          · exact h1
          · rw [List.getElem?_eq_none h1] at hj; cases hj
        rw [Array.getElem?_append_left (by simpa using hlt)]
        simpa using hj)
      (by have := hvr.length; simp only; rw [this]; simp)
    refine ⟨_, _, _, hrun, ⟨hle2, ?_, ?_, hrel3, hun, hnext, fun b2 hb2 _ _ => heap_alloc_old w.drew _ b2 hb2, rfl, rfl, rfl, by simp, fun _ _ e => .inl e, hhid, fun _ _ _ e => .inl e⟩, ?_⟩
    · intro q hq2; exact Env.add_ne (by omega)
    · intro q b2 base2 e2
      rcases Env.add_loc e2 with ⟨_, h3⟩ | ⟨_, h3⟩
      · cases h3; exact .inl (by simp)
      · exact .inr ⟨q, base2, h3⟩
    · refine .sl (base := 0) (b := w.heap.size) (by simpa using Env.add_self _ _ _ _ _) hge (fun h => by cases h) (fun _ => ⟨rfl, ?_⟩) (by simp)
      rw [hsz]
      simp [Env.add]
theorem append_ok {P : Program} {E : Env} {s : St} {w : World} (h : Rel E s w) {t tx ty e : TypeId} {i : TypeInfo} {z : Value} {es : Nat} (A : AppTy P t e i z es)
    {a a' : AV} {new : List AV} {n : Nat} {s' : St} (ha : appendA e es a new n s = .val a' s') {v x : Value} (hv : VR E a v) {news : List Value} (hnew : VRL E new news)
    (hs : Src P i.size tx x n news w) {j : Nat} (hj : lenA a = some j) (hb : j + n ≤ 1073741824) :
    ∃ v' w' E', (Builtin.append_ #[t, tx] ty #[v, x]).run P w = .ok v' w' ∧ Step E s w E' s' w' ∧ VR E' a' v' := by
  have nothing : ∀ (base : Option Addr) (len cap : Nat), len ≤ cap → n = 0 → (Builtin.append_ #[t, tx] ty #[.slice base len cap, x]).run P w = .ok (.slice base len cap) w := by
    intro base len cap hle h0
    subst h0
    have h0 : news = [] := List.eq_nil_of_length_eq_zero (by simpa using hs.newsLen)
    subst h0
    exact run_append_nothing w t tx ty e i A.ht A.hi base len cap hle x hs
  cases hv with
  | lst hcs hle ht hnl hc hz =>
    rename_i cs vs len cap tight nl base
    simp only [lenA, Option.some.injEq] at hj
    subst hj
    simp only [appendA] at ha
    rcases Bool.eq_false_or_eq_true (n.beq 0) with h0 | h0
    · rw [cond_of_true h0] at ha
      cases ha
      exact ⟨_, w, E, nothing base len cap hle (Nat.eq_of_beq_eq_true h0), .refl h, .lst hcs hle ht hnl hc hz⟩
    · rw [cond_of_false h0] at ha
      have hn0 : n ≠ 0 := fun e => by subst e; simp at h0
      rcases Bool.eq_false_or_eq_true (tight && cs.length.beq (len * es)) with h1 | h1
      · rw [cond_of_true h1] at ha
        cases ha
        simp only [Bool.and_eq_true] at h1
        have hcl := Nat.eq_of_beq_eq_true h1.2
        have hcap := ht h1.1
        have hvl : vs.length = len * es := by rw [← hcs.length]; exact hcl
        have ho : (Builtin.firstCells i.size len (.slice base len cap)).run P w.drew = .ok vs.toArray w.drew := by
          refine firstCells_of (by rw [A.size]; exact hvl) (fun hp => ?_)
          obtain ⟨b, bs, e1, e2⟩ := hz (fun e => by rw [e] at hp; simp at hp)
          exact ⟨b, bs, e1, fun k u hu => by rw [show w.drew.cell? _ = w.cell? _ from rfl]; exact h.z _ _ _ (e2 k u hu)⟩
        obtain ⟨v', w', r1, r2, r3⟩ := append_new h A (ty := ty) hcs hnew ho hs hvl (by omega) hb
        exact ⟨v', w', _, r1, r2, r3 _ rfl⟩
      · rw [cond_of_false h1] at ha; cases ha
  | sl hloc hle ht hcap hsome =>
    rename_i r b base off len es' cap tight ad
    simp only [lenA, Option.some.injEq] at hj
    subst hj
    simp only [appendA] at ha
    rcases Bool.eq_false_or_eq_true (n.beq 0) with h0 | h0
    · rw [cond_of_true h0] at ha
      cases ha
      exact ⟨_, w, E, nothing ad len cap hle (Nat.eq_of_beq_eq_true h0), .refl h, .sl hloc hle ht hcap hsome⟩
    · rw [cond_of_false h0] at ha
      have hn0 : n ≠ 0 := fun e => by subst e; simp at h0
      rcases Bool.eq_false_or_eq_true (es.beq es') with h1 | h1
      · rw [cond_of_true h1] at ha
        have hes := Nat.eq_of_beq_eq_true h1
        subst hes
        split at ha
        · rename_i o ho
          obtain ⟨hr, hvalid⟩ := rowAt_eq ho
          rcases Bool.eq_false_or_eq_true (o.ty.beq e) with hot | hot
          rotate_left
          · rw [cond_of_false hot] at ha; cases ha
          rw [cond_of_true hot] at ha
          have hot := Nat.eq_of_beq_eq_true hot
          -- the old cells
          have hold : ∀ q, cutN (len * es) off o.vals = some q → ∃ olds, VRL E q olds ∧ olds.length = len * es ∧
              (∀ (k : Nat) (u : Value), olds[k]? = some u → w.cell? ⟨b, base + off + k, none⟩ = some u) ∧
              (Builtin.firstCells i.size len (.slice ad len cap)).run P w.drew = .ok olds.toArray w.drew := by
            intro q hq
            obtain ⟨olds, k1, k2, k3⟩ := row_cells h ho hloc hq
            refine ⟨olds, k1, k2, k3, firstCells_of (by rw [A.size]; exact k2) (fun hp => ?_)⟩
            have hc0 : 0 < cap := by
              rcases Nat.eq_zero_or_pos len with e0 | e0
              · subst e0; rw [k2] at hp; simp at hp
              · omega
            exact ⟨b, base + off, (hcap hc0).1, fun k u hu => by rw [show w.drew.cell? _ = w.cell? _ from rfl]; exact k3 k u hu⟩
          rcases Bool.eq_false_or_eq_true tight with h2 | h2
          · rw [cond_of_true h2] at ha
            split at ha
            · rename_i q hq
              cases ha
              obtain ⟨olds, k1, k2, k3, k4⟩ := hold q hq
              have hcap' := ht h2
              obtain ⟨v', w', r1, r2, r3⟩ := append_new h A (ty := ty) k1 hnew k4 hs k2 (by omega) hb
              exact ⟨v', w', _, r1, r2, r3 _ rfl⟩
            · cases ha
          · rw [cond_of_false h2] at ha
            split at ha
            · rename_i q0 hq0
              unfold appendT at ha
              split at ha
              · rename_i q hq
                obtain ⟨olds, k1, k2, k3, k4⟩ := hold q hq
                have hq' := cutN_len hq
                exact append_family h ty A (o := o) (q0 := q0) hot hr hvalid hq0 hloc hq ha k1 k2 k3 k4 hnew hs hle hcap (by omega) hb
              · cases ha
            · cases ha
        · cases ha
      · rw [cond_of_false h1] at ha; cases ha
  | _ => simp [appendA] at ha
end Go.Am
end
section
namespace Go.Am
def GlobOk (E : Env) (G : Glob) (w : World) : Prop :=
  ((∀ g cs, G.at_ g = some cs → ∃ vs, VRL E cs vs ∧ ∀ (i : Nat) (v : Value), vs[i]? = some v → E.z g i = some v) ∧
    ∀ g n, G.siz g = some n → (∃ v, E.z g 0 = some v) ∧ ∃ c ty fz, w.heap[g]? = some (.cells c ty fz) ∧ c.size = n) ∧ E.H = G.H
theorem GlobOk.step {E E' : Env} {s s' : St} {w w' : World} {G : Glob} (h : GlobOk E G w) (hr : Rel E s w) (hs : Step E s w E' s' w') : GlobOk E' G w' := ⟨⟨fun g cs hg => by
  obtain ⟨vs, h1, h2⟩ := h.1.1 g cs hg
  exact ⟨vs, VRL.mono hs.le h1, fun i v hi => hs.le.z _ _ _ (h2 i v hi)⟩, fun g n hg => by
  obtain ⟨⟨v, hv⟩, c, ty, fz, h1, h2⟩ := h.1.2 g n hg
  refine ⟨⟨v, hs.le.z _ _ _ hv⟩, c, ty, fz, ?_, h2⟩
  have hlt : g < w.heap.size := by
    rcases Nat.lt_or_ge g w.heap.size with h | h
    · exact h
    · rw [Array.getElem?_eq_none h] at h1; cases h1
  rw [hs.fr g hlt (fun r base => hr.zap g 0 v r base hv) fun m hm => by
    have := (hr.own m g hm).2.2.1 0
    rw [hv] at this; cases this]
  exact h1⟩, hs.le.H.trans h.2⟩
theorem GlobOk.grown {E E' : Env} {w w' : World} {G : Glob} (h : GlobOk E G w) (he : E.le E') (hw : ∀ b, b < w.heap.size → w'.heap[b]? = w.heap[b]?) : GlobOk E' G w' := ⟨⟨fun g cs hg => by
  obtain ⟨vs, h1, h2⟩ := h.1.1 g cs hg
  exact ⟨vs, VRL.mono he h1, fun i v hi => he.z _ _ _ (h2 i v hi)⟩, fun g n hg => by
  obtain ⟨⟨v, hv⟩, c, ty, fz, h1, h2⟩ := h.1.2 g n hg
  refine ⟨⟨v, he.z _ _ _ hv⟩, c, ty, fz, ?_, h2⟩
  have hlt : g < w.heap.size := by
    rcases Nat.lt_or_ge g w.heap.size with h | h
    · exact h
    · rw [Array.getElem?_eq_none h] at h1; cases h1
  rw [hw g hlt]; exact h1⟩, he.H.trans h.2⟩
def DfrR (E : Env) (x : FuncId × List AV) (d : Deferred) : Prop := ∃ cap : List Value, d.target = .fn (.func x.1) ⟨cap⟩ ∧ VRL E x.2 (d.args.toList ++ cap)
inductive DfrsR (E : Env) : List (FuncId × List AV) → List Deferred → Prop
  | nil : DfrsR E [] []
  | cons {x : FuncId × List AV} {d : Deferred} {l : List (FuncId × List AV)} {r : List Deferred} (h : DfrR E x d) (hl : DfrsR E l r) : DfrsR E (x :: l) (d :: r)
theorem DfrR.mono {E E' : Env} (he : E.le E') {x : FuncId × List AV} {d : Deferred} (h : DfrR E x d) : DfrR E' x d := by
  obtain ⟨cap, h1, h2⟩ := h; exact ⟨cap, h1, VRL.mono he h2⟩
theorem DfrsR.mono {E E' : Env} (he : E.le E') {l : List (FuncId × List AV)} {r : List Deferred} (h : DfrsR E l r) : DfrsR E' l r := by
  induction h with
  | nil => exact .nil
  | cons h _ ih => exact .cons (h.mono he) ih
structure TR (E : Env) (t : T) (a : Act) : Prop where
  size : a.tmps.size = t.n
  val : ∀ i, VR E (getT (pathOf i) t) (a.tmps.getD i undef)
  ds : DfrsR E t.ds a.defers
theorem TR.mono {E E' : Env} (he : E.le E') {t : T} {a : Act} (h : TR E t a) : TR E' t a := ⟨h.size, fun i => VR.mono he (h.val i), h.ds.mono he⟩
theorem TR.put {E : Env} {t : T} {a : Act} (h : TR E t a) (d : Nat) {x : AV} {v : Value} (hv : VR E x v) : TR E (t.put d (pathOf d) x) (a.put (some d) v) := by
  unfold T.put
  rcases Bool.eq_false_or_eq_true (Nat.blt d t.n) with hb | hb
  · rw [cond_of_true hb]
    have hlt : d < t.n := Nat.lt_of_lt_of_eq (Nat.le_of_ble_eq_true hb) rfl
    refine ⟨by simp [Act.put, h.size], fun i => ?_, h.ds⟩
    by_cases e : d = i
    · subst e
      have h1 : getT (pathOf d) { t with tr := t.tr.setP x (pathOf d) } = x := by simp [getT, Tr.getP_setP_same]
      rw [h1]
      have : (a.put (some d) v).tmps.getD d undef = v := by
        simp only [Act.put, Array.getD_eq_getD_getElem?]
        rw [Array.getElem?_setIfInBounds_self]
        simp [h.size, hlt]
      rw [this]; exact hv
    · have h1 : getT (pathOf i) { t with tr := t.tr.setP x (pathOf d) } = getT (pathOf i) t := by
        simp [getT, Tr.getP_setP_ne x _ _ t.tr (fun e2 => e (pathOf_inj e2))]
      rw [h1]
      have : (a.put (some d) v).tmps.getD i undef = a.tmps.getD i undef := by
        simp only [Act.put, Array.getD_eq_getD_getElem?]
        rw [Array.getElem?_setIfInBounds_ne e]
      rw [this]; exact h.val i
  · rw [cond_of_false hb]
    have hge : ¬ d < t.n := fun h2 => by rw [show Nat.blt d t.n = true from Nat.ble_eq_true_of_le h2] at hb; cases hb
    have : (a.put (some d) v) = a := by
      simp only [Act.put]
      rw [Array.setIfInBounds_eq_of_size_le (by rw [h.size]; omega)]
    rw [this]; exact h
mutual
theorem ofV_ok (E : Env) : ∀ {v : Value} {c : AV}, ofV v = some c → VR E c v
  | .int k n, c, h => by simp [ofV] at h; subst h; exact .int k n
  | .bool b, c, h => by simp [ofV] at h; subst h; exact .bool b
  | .string s, c, h => by simp only [ofV, Option.some.injEq] at h; subst h; exact .str s
  | .pointer none, c, h => by simp [ofV] at h; subst h; exact .nilp
  | .pointer (some _), c, h => by simp [ofV] at h
  | .nilFunc, c, h => by simp [ofV] at h; subst h; exact .nilfn
  | .nilIface, c, h => by simp [ofV] at h; subst h; exact .nilifc
  | .map none, c, h => by simp [ofV] at h; subst h; exact .mpn
  | .map (some _), c, h => by simp [ofV] at h
  | .slice none 0 0, c, h => by
    simp [ofV] at h; subst h
    exact .lst .nil (Nat.le_refl _) (fun _ => rfl) rfl (fun _ => rfl) (fun h => absurd rfl h)
  | .slice none 0 (_ + 1), c, h => by simp [ofV] at h
  | .slice none (_ + 1) _, c, h => by simp [ofV] at h
  | .slice (some _) _ _, c, h => by simp [ofV] at h
  | .iface t v, c, h => by
    simp only [ofV] at h
    split at h
    · rename_i x hx; cases h; exact .ifc (ofV_ok E hx)
    · cases h
  | .agg ⟨cs⟩, c, h => by
    simp only [ofV] at h
    split at h
    · rename_i x hx; cases h; exact .agg (ofVs_ok E hx)
    · cases h
  | .tuple ⟨cs⟩, c, h => by
    simp only [ofV] at h
    split at h
    · rename_i x hx; cases h; exact .tup (ofVs_ok E hx)
    · cases h
  | .func f ⟨[]⟩ ⟨[]⟩, c, h => by simp [ofV] at h; subst h; exact .fn .nil .nil
  | .func f ⟨_ :: _⟩ _, c, h => by simp [ofV] at h
  | .func f ⟨[]⟩ ⟨_ :: _⟩, c, h => by simp [ofV] at h
  | .float _ _, c, h => by simp [ofV] at h
  | .complex _ _ _, c, h => by simp [ofV] at h
  | .chan _, c, h => by simp [ofV] at h
theorem ofVs_ok (E : Env) : ∀ {v : List Value} {c : List AV}, ofVs v = some c → VRL E c v
  | [], c, h => by simp [ofVs] at h; subst h; exact .nil
  | a :: l, c, h => by
    simp only [ofVs] at h
    split at h
    · rename_i x xs h1 h2; cases h; exact .cons (ofV_ok E h1) (ofVs_ok E h2)
    · cases h
end
theorem ofNat_toNat (l : List UInt8) : (l.map (·.toNat)).map UInt8.ofNat = l := by
  induction l with
  | nil => rfl
  | cons a l ih => simp only [List.map_cons, ih, UInt8.ofNat_toNat]
mutual
theorem toV_ok {E : Env} : ∀ {a : AV} {v x : Value}, VR E a v → toV a = some x → v = x
  | _, _, x, .int k n, h => by simp [toV] at h; exact h
  | _, _, x, .bool b, h => by simp [toV] at h; exact h
  | _, _, x, .str s, h => by
    simp only [toV, ofNat_toNat, Option.some.injEq] at h; subst h
    rfl
  | _, _, x, .nilp, h => by simp [toV] at h; exact h
  | _, _, x, .ptr _ _, h => by simp [toV] at h
  | _, _, x, .ptrL _ _ _, h => by simp [toV] at h
  | _, _, x, .sl _ _ _ _ _, h => by simp [toV] at h
  | _, _, x, .lst (cs := []) (len := 0) (tight := true) (nl := true) h1 h2 h3 h4 h5 h6, h => by
    simp only [toV, Option.some.injEq] at h
    subst h
    have hc := h3 rfl
    subst hc
    rename_i a
    cases a with
    | none => rfl
    | some _ => simp at h4
  | _, _, x, .lst (cs := _ :: _) h1 h2 h3 h4 h5 h6, h => by simp [toV] at h
  | _, _, x, .lst (cs := []) (len := _ + 1) h1 h2 h3 h4 h5 h6, h => by simp [toV] at h
  | _, _, x, .lst (cs := []) (len := 0) (tight := false) h1 h2 h3 h4 h5 h6, h => by simp [toV] at h
  | _, _, x, .lst (cs := []) (len := 0) (tight := true) (nl := false) h1 h2 h3 h4 h5 h6, h => by simp [toV] at h
  | _, _, x, .mpn, h => by simp [toV] at h; exact h
  | _, _, x, .mp _, h => by simp [toV] at h
  | _, _, x, .fn _ _, h => by simp [toV] at h
  | _, _, x, .nilfn, h => by simp [toV] at h; exact h
  | _, _, x, .ifc h1, h => by
    simp only [toV] at h
    split at h
    · rename_i y hy; cases h; rw [toV_ok h1 hy]
    · cases h
  | _, _, x, .nilifc, h => by simp [toV] at h; exact h
  | _, _, x, .agg h1, h => by
    simp only [toV] at h
    split at h
    · rename_i y hy; cases h; rw [toVs_ok h1 hy]
    · cases h
  | _, _, x, .tup h1, h => by
    simp only [toV] at h
    split at h
    · rename_i y hy; cases h; rw [toVs_ok h1 hy]
    · cases h
  | _, _, x, .lit _ _, h => by simp [toV] at h
  | _, _, x, .undef _, h => by simp [toV] at h
theorem toVs_ok {E : Env} : ∀ {a : List AV} {v x : List Value}, VRL E a v → toVs a = some x → v = x
  | _, _, x, .nil, h => by simp [toVs] at h; exact h.symm
  | _, _, x, .cons h1 h2, h => by
    simp only [toVs] at h
    split at h
    · rename_i y ys e1 e2; cases h; rw [toV_ok h1 e1, toVs_ok h2 e2]
    · cases h
end
section
variable {P : Program} {G : Glob} {E : Env} {s : St} {w : World} {t : T} {a : Act}
theorem evC_ok (hG : GlobOk E G w) (ht : TR E t a) (x : Operand) : VR E (evC G x t) (a.eval x) := by
  cases x with
  | tmp i => exact ht.val i
  | const v =>
    cases hc : ofV v with
    | some c => simp only [evC, hc]; exact ofV_ok E hc
    | none => simp only [evC, hc]; exact .undef _
  | global g =>
    cases hcs : G.at_ g with
    | some cs =>
      simp only [evC, hcs]
      obtain ⟨vs, h1, h2⟩ := hG.1.1 g cs hcs
      exact VR.ptrL (base := 0) 0 h1 (fun i v hi => by simpa using h2 i v hi)
    | none => simp only [evC, hcs]; exact .undef _
  | func f => exact .fn .nil .nil
theorem evL_ok (hG : GlobOk E G w) (ht : TR E t a) : ∀ l : List Operand, VRL E (evL G l t) (l.map a.eval)
  | [] => .nil
  | x :: l => .cons (evC_ok hG ht x) (evL_ok hG ht l)
theorem still_run {α : Type} : ∀ {x : Sem α} {v : α}, still P x = some v → ∀ w, x.run P w = .ok v w
  | .pure a, v, h, w => by simp [still] at h; subst h; rfl
  | .program k, v, h, w => by simp only [still] at h; exact still_run h w
  | .load _ _ _, v, h, w => by simp [still] at h
  | .store _ _ _ _, v, h, w => by simp [still] at h
  | .new _ _, v, h, w => by simp [still] at h
  | .shape _ _, v, h, w => by simp [still] at h
  | .freeze _ _ _, v, h, w => by simp [still] at h
  | .frozen _ _, v, h, w => by simp [still] at h
  | .getObj _ _, v, h, w => by simp [still] at h
  | .setObj _ _ _, v, h, w => by simp [still] at h
  | .choose _ _, v, h, w => by simp [still] at h
  | .sys _ _, v, h, w => by simp [still] at h
  | .mark _ _, v, h, w => by simp [still] at h
  | .halt _, v, h, w => by simp [still] at h
theorem toVs_mem {l : List Operand} : ∀ {xs : List Value}, toVs (evL G l t) = some xs → ∀ x ∈ l, ∃ u, toV (evC G x t) = some u := by
  induction l with
  | nil => intro _ _ x hx; simp at hx
  | cons y l ih =>
    intro xs h x hx
    simp only [evL, toVs] at h
    split at h
    · rename_i u us e1 e2
      rcases List.mem_cons.1 hx with rfl | hx
      · exact ⟨u, e1⟩
      · exact ih e2 x hx
    · cases h
theorem plainRun_ok (hG : GlobOk E G w) (ht : TR E t a) {o : Oper} (hs : ∀ cs b, o.op ≠ .select cs b) {x : AV} (h : plainRun P G o t = some x) :
    ∃ v, (∀ w, (execOp a.eval o).run P w = .ok (.value v) w) ∧ VR E x v := by
  unfold plainRun at h
  split at h
  · cases h
  · rename_i xs hxs
    split at h
    · rename_i v hv
      refine ⟨v, fun w => ?_, ofV_ok E h⟩
      have hc : execOp a.eval o = execOp (fun x => match toV (evC G x t) with | some v => v | none => .tuple #[]) o := by
        refine execOp_congr o hs (fun x hx => ?_)
        obtain ⟨u, hu⟩ := toVs_mem hxs x (by simpa using hx)
        rw [hu]
        exact toV_ok (evC_ok hG ht x) hu
      rw [hc]
      exact still_run hv w
    · cases h
end
def OpOk (P : Program) (E : Env) (s : St) (w : World) (o : Oper) (a : Act) : Nx → Prop
  | .val x s' => (∃ v' w' E', (execOp a.eval o).run P w = .ok (.value v') w' ∧ Step E s w E' s' w' ∧ VR E' x v') ∨
      (∃ f args, (execOp a.eval o).run P w = .ok (.enter f args) w ∧ Calls P f args w fun e w' => ∃ v' E', e = .returned v' ∧ Step E s w E' s' w' ∧ VR E' x v')
  | .skip s' => ∃ w' E', (execOp a.eval o).run P w = .ok .skip w' ∧ Step E s w E' s' w'
  | .dfr f args s' => s' = s ∧ ∃ d, (execOp a.eval o).run P w = .ok (.defer d) w ∧ DfrR E (f, args) d
  | .panic x s' => (∃ v' w' E', (execOp a.eval o).run P w = .halt (.panic v') w' ∧ Step E s w E' s' w' ∧ VR E' x v') ∨
      (∃ f args, (execOp a.eval o).run P w = .ok (.enter f args) w ∧ Calls P f args w fun e w' => ∃ v' E', e = .panicked [{ v := v', recovered := false }] ∧ Step E s w E' s' w' ∧ VR E' x v')
  | .fail => True
section
variable {P : Program} {G : Glob} {E : Env} {s : St} {w : World} {t : T} {a : Act} {o : Oper}
theorem OpOk.ofVal (h : Rel E s w) {x : AV} {v : Value} (hr : (execOp a.eval o).run P w = .ok (.value v) w) (hv : VR E x v) : OpOk P E s w o a (.val x s) :=
  .inl ⟨v, w, E, hr, .refl h, hv⟩
theorem valO_ok (h : Rel E s w) {x : Option AV} (hx : ∀ y, x = some y → ∃ v, (execOp a.eval o).run P w = .ok (.value v) w ∧ VR E y v) : OpOk P E s w o a (valO x s) := by
  unfold valO
  split
  · rename_i y
    obtain ⟨v, h1, h2⟩ := hx y rfl
    exact .ofVal h h1 h2
  · trivial
theorem aggO_ok (h : Rel E s w) {x : Option (List AV)} (hx : ∀ y, x = some y → ∃ v, (execOp a.eval o).run P w = .ok (.value v) w ∧ VR E (.agg y) v) : OpOk P E s w o a (aggO x s) := by
  unfold aggO
  split
  · rename_i y
    obtain ⟨v, h1, h2⟩ := hx y rfl
    exact .ofVal h h1 h2
  · trivial
theorem plainC_ok (h : Rel E s w) (hG : GlobOk E G w) (ht : TR E t a) (hs : ∀ cs b, o.op ≠ .select cs b) : OpOk P E s w o a (plainC P G o t s) :=
  valO_ok h fun y hy => by
    obtain ⟨v, h1, h2⟩ := plainRun_ok hG ht hs hy
    exact ⟨v, h1 w, h2⟩
theorem eqNs_eq : ∀ (a b : List Nat), eqNs a b = decide (a = b)
  | [], [] => by simp [eqNs]
  | [], _ :: _ => by simp [eqNs]
  | _ :: _, [] => by simp [eqNs]
  | a :: l, b :: r => by
    simp only [eqNs]
    rcases Bool.eq_false_or_eq_true (a.beq b) with h | h
    · have := Nat.eq_of_beq_eq_true h
      rw [cond_of_true h, eqNs_eq l r]
      subst this; simp
    · have : a ≠ b := fun e => by subst e; simp at h
      rw [cond_of_false h]; simp [this]
theorem eqI_eq : ∀ (a b : Int), eqI a b = (a == b)
  | .ofNat a, .ofNat b => by
    rw [Bool.eq_iff_iff]; simp [eqI]; omega
  | .negSucc a, .negSucc b => by
    rw [Bool.eq_iff_iff]; simp [eqI]
  | .ofNat a, .negSucc b => by
    rw [Bool.eq_iff_iff]; simp [eqI]
  | .negSucc a, .ofNat b => by
    rw [Bool.eq_iff_iff]; simp [eqI]
theorem leI_eq : ∀ (a b : Int), leI a b = decide (a ≤ b)
  | .ofNat a, .ofNat b => by rw [Bool.eq_iff_iff]; simp [leI]
  | .negSucc a, .negSucc b => by rw [Bool.eq_iff_iff]; simp [leI]; omega
  | .ofNat a, .negSucc b => by rw [Bool.eq_iff_iff]; simp [leI]; omega
  | .negSucc a, .ofNat b => by rw [Bool.eq_iff_iff]; simp [leI]; omega
theorem kindEq_eq {a b : IntKind} (h : kindEq a b = true) : a = b := by cases a <;> cases b <;> first | rfl | (simp [kindEq] at h)
theorem bytes_eq_iff (a b : ByteArray) : (a.data.toList.map (·.toNat) = b.data.toList.map (·.toNat)) ↔ a.data.toList = b.data.toList := by
  constructor
  · intro h
    have := congrArg (List.map UInt8.ofNat) h
    rwa [ofNat_toNat, ofNat_toNat] at this
  · intro h; rw [h]
end
end Go.Am
end
section
namespace Go.Am
section
variable {P : Program} {G : Glob} {E : Env} {s : St} {w : World} {t : T} {a : Act} {o : Oper}
theorem run_binOp {op : BinOp} {ty yt : TypeId} {x y : Operand} (ho : o.op = .binOp op ty x y yt) {u v r : Value} (hu : a.eval x = u) (hv : a.eval y = v)
    (hg : (eqGuard op ty x y u v).run P w = .ok () w) (hr : (binOp op ty u v).run P w = .ok r w) : (execOp a.eval o).run P w = .ok (.value r) w := by
  simp only [execOp, ho, hu, hv]
  simp [hg, hr]
theorem eqGuard_int (op : BinOp) (ty : TypeId) (x y : Operand) (k k' : IntKind) (m n : Int) : (eqGuard op ty x y (.int k m) (.int k' n)).run P w = .ok () w := by
  unfold eqGuard
  cases op <;> simp
theorem eqGuard_str (op : BinOp) (ty : TypeId) (x y : Operand) (m n : ByteArray) : (eqGuard op ty x y (.string m) (.string n)).run P w = .ok () w := by
  unfold eqGuard
  cases op <;> simp
theorem not_dec (m n : Int) : (!decide (n ≤ m)) = decide (m < n) := by rw [Bool.eq_iff_iff]; simp
theorem intOp_run {op : BinOp} {f : IntKind → Int → Int → AV} (hf : intOp op = some f) (ty : TypeId) (k : IntKind) (m n : Int) :
    ∃ r, (binOp op ty (.int k m) (.int k n)).run P w = .ok r w ∧ VR E (f k m n) r := by
  cases op <;> simp only [intOp, Option.some.injEq] at hf <;> first | (cases hf; done) | subst hf
  · exact ⟨.int k (k.wrap (m + n)), by simp [binOp, Op.intArith], .int _ _⟩
  · exact ⟨.int k (k.wrap (m - n)), by simp [binOp, Op.intArith], .int _ _⟩
  · exact ⟨.int k (k.wrap (m * n)), by simp [binOp, Op.intArith], .int _ _⟩
  · exact ⟨.bool (m == n), by simp [binOp, Op.intCmp], by show VR E (.bool (eqI m n)) _; rw [eqI_eq]; exact .bool _⟩
  · exact ⟨.bool (m != n), by simp [binOp, Op.intCmp], by show VR E (.bool (!eqI m n)) _; rw [eqI_eq]; exact .bool _⟩
  · exact ⟨.bool (decide (m < n)), by simp [binOp, Op.intCmp], by show VR E (.bool (!leI n m)) _; rw [leI_eq, not_dec]; exact .bool _⟩
  · exact ⟨.bool (decide (m ≤ n)), by simp [binOp, Op.intCmp], by show VR E (.bool (leI m n)) _; rw [leI_eq]; exact .bool _⟩
  · exact ⟨.bool (decide (n < m)), by simp [binOp, Op.intCmp], by show VR E (.bool (!leI m n)) _; rw [leI_eq, not_dec]; exact .bool _⟩
  · exact ⟨.bool (decide (n ≤ m)), by simp [binOp, Op.intCmp], by show VR E (.bool (leI n m)) _; rw [leI_eq]; exact .bool _⟩
theorem toList_eq_data (s : ByteArray) : s.toList = s.data.toList := ByteArray.toList_eq s
theorem str_eq (x y : ByteArray) : eqNs (x.data.toList.map (·.toNat)) (y.data.toList.map (·.toNat)) = (x.toList == y.toList) := by
  rw [eqNs_eq, toList_eq_data, toList_eq_data, Bool.eq_iff_iff]
  simp only [decide_eq_true_eq, beq_iff_eq]
  exact bytes_eq_iff x y
theorem eqGuard_skip {op : BinOp} {ty : TypeId} {x y : Operand} {u v : Value} {w : World} (h1 : u ≠ .nilIface ∨ v ≠ .nilIface) (h2 : ∀ cs, u ≠ .agg cs) : (eqGuard op ty x y u v).run P w = .ok () w := by
  cases op <;> first | rfl | (cases u <;> first | rfl | exact absurd rfl (h2 _) | (rcases h1 with h1 | h1; exact absurd rfl h1; cases v <;> first | rfl | exact absurd rfl h1))
theorem vr_nilS {v : Value} (h : VR E (.lst [] 0 true true) v) : v = .slice none 0 0 := by
  cases h with
  | lst h hl ht hn hc hz =>
    rename_i a
    have := ht rfl
    subst this
    cases a with
    | none => rfl
    | some _ => simp at hn
theorem nilEq_run (d0 : Nat) {ty : TypeId} {u v : AV} {x y : Value} {b : Bool} (h : nilEq (P.underlying ty) u v = some b) (hu : VR E u x) (hv : VR E v y) :
    (Op.equalIn (d0 + 1) ty x y).run P w = .ok b w ∧ (x ≠ .nilIface ∨ y ≠ .nilIface) ∧ ∀ cs, x ≠ .agg cs := by
  cases hd : P.underlying ty with
  | none => rw [hd] at h; simp [nilEq] at h
  | some d =>
    rw [hd] at h
    cases d with
    | pointer e =>
      simp only [nilEq] at h
      split at h <;> cases h
      all_goals (cases hu; cases hv; exact ⟨by simp [Op.equalIn, run_underlying hd], by simp, by simp⟩)
    | slice e =>
      simp only [nilEq] at h
      split at h <;> cases h
      · have := vr_nilS hv
        subst this
        cases hu with
        | lst h1 h2 h3 h4 h5 h6 =>
          rename_i a
          subst h4
          cases a <;> exact ⟨by simp [Op.equalIn, run_underlying hd], by simp, by simp⟩
      · have := vr_nilS hu
        subst this
        cases hv with
        | lst h1 h2 h3 h4 h5 h6 =>
          rename_i a
          subst h4
          cases a <;> exact ⟨by simp [Op.equalIn, run_underlying hd], by simp, by simp⟩
      · have := vr_nilS hv
        subst this
        cases hu with
        | sl h1 h2 h3 h4 hsome =>
          obtain ⟨e, _⟩ := h4 (by omega)
          subst e
          exact ⟨by simp [Op.equalIn, run_underlying hd], by simp, by simp⟩
      · have := vr_nilS hu
        subst this
        cases hv with
        | sl h1 h2 h3 h4 hsome =>
          obtain ⟨e, _⟩ := h4 (by omega)
          subst e
          exact ⟨by simp [Op.equalIn, run_underlying hd], by simp, by simp⟩
    | map k e =>
      simp only [nilEq] at h
      split at h <;> cases h
      all_goals (cases hu; cases hv; exact ⟨by simp [Op.equalIn, run_underlying hd], by simp, by simp⟩)
    | func a b c =>
      simp only [nilEq] at h
      split at h <;> cases h
      all_goals (cases hu; cases hv; exact ⟨by simp [Op.equalIn, run_underlying hd], by simp, by simp⟩)
    | interface ms =>
      simp only [nilEq] at h
      split at h <;> cases h
      all_goals (cases hu; cases hv; exact ⟨by simp [Op.equalIn, run_underlying hd], by simp, by simp⟩)
    | _ => simp [nilEq] at h
theorem binOp_eql {ty : TypeId} {u v : AV} {x y : Value} {b : Bool} (h : nilEq (P.underlying ty) u v = some b) (hu : VR E u x) (hv : VR E v y) :
    (binOp .eql ty x y).run P w = .ok (.bool b) w ∧ (binOp .neq ty x y).run P w = .ok (.bool !b) w := by
  obtain ⟨h1, _, _⟩ := nilEq_run (w := w) 9999 h hu hv
  have h1 : (Op.equal ty x y).run P w = .ok b w := h1
  unfold nilEq at h
  have key : (∀ k n, x ≠ .int k n) ∧ (∀ k n, x ≠ .float k n) ∧ (∀ k a b, x ≠ .complex k a b) ∧ (∀ s, x ≠ .string s) := by
    repeat' (split at h)
    all_goals first | (cases h; done) | (cases hu <;> exact ⟨by simp, by simp, by simp, by simp⟩)
  obtain ⟨k1, k2, k3, k4⟩ := key
  cases x <;> first | exact absurd rfl (k1 _ _) | exact absurd rfl (k2 _ _) | exact absurd rfl (k3 _ _ _) | exact absurd rfl (k4 _) | exact ⟨by simp [binOp, h1], by simp [binOp, h1]⟩
theorem nilEqC_ok (h : Rel E s w) (hG : GlobOk E G w) (ht : TR E t a) {op : BinOp} {neg : Bool} {ty yt : TypeId} {x y : Operand} (ho : o.op = .binOp op ty x y yt) (hop : (op = .eql ∧ neg = false) ∨ (op = .neq ∧ neg = true)) {k : OpF}
    (hk : OpOk P E s w o a (k t s)) : OpOk P E s w o a (nilEqC (P.underlying ty) neg (evC G x) (evC G y) k t s) := by
  have hx := evC_ok hG ht x
  have hy := evC_ok hG ht y
  unfold nilEqC
  split
  · rename_i b e
    obtain ⟨_, h2, h3⟩ := nilEq_run (w := w) 0 e hx hy
    obtain ⟨h4, h5⟩ := binOp_eql (w := w) e hx hy
    rcases hop with ⟨rfl, rfl⟩ | ⟨rfl, rfl⟩
    · exact .ofVal h (run_binOp ho rfl rfl (eqGuard_skip h2 h3) h4) (.bool _)
    · exact .ofVal h (run_binOp ho rfl rfl (eqGuard_skip h2 h3) h5) (.bool _)
  · exact hk
theorem ptrEqC_ok (h : Rel E s w) (hG : GlobOk E G w) (ht : TR E t a) {op : BinOp} {neg : Bool} {ty yt : TypeId} {x y : Operand} (ho : o.op = .binOp op ty x y yt) (hop : (op = .eql ∧ neg = false) ∨ (op = .neq ∧ neg = true)) {k : OpF}
    (hk : OpOk P E s w o a (k t s)) : OpOk P E s w o a (ptrEqC (ptrT P ty) neg (evC G x) (evC G y) k t s) := by
  have hx := evC_ok hG ht x
  have hy := evC_ok hG ht y
  unfold ptrEqC
  split
  · rename_i r m q n e1 e2
    rw [e1] at hx
    rw [e2] at hy
    rcases Bool.eq_false_or_eq_true (ptrT P ty && (r.beq q && m.beq n)) with hb | hb
    · rw [cond_of_true hb]
      simp only [Bool.and_eq_true] at hb
      have e3 := Nat.eq_of_beq_eq_true hb.2.1
      have e4 := Nat.eq_of_beq_eq_true hb.2.2
      subst e3 e4
      have hpt := hb.1
      unfold ptrT at hpt
      split at hpt
      · rename_i e hu
        obtain ⟨z, hz⟩ := Option.isSome_iff_exists.1 hpt
        unfold sizeT at hz
        obtain ⟨i, hi, _⟩ := Option.map_eq_some_iff.1 hz
        generalize hv1 : a.eval x = v1 at hx
        generalize hv2 : a.eval y = v2 at hy
        cases hx with
        | ptr off1 l1 =>
          cases hy with
          | ptr off2 l2 =>
            rename_i b base _ _
            rw [l1] at l2
            cases l2
            have heq : ∀ d : Nat, (Op.equalIn (d + 1) ty (.pointer (some ⟨b, base + m, none⟩)) (.pointer (some ⟨b, base + m, none⟩))).run P w = .ok true w := fun d => by
              simp [Op.equalIn, run_underlying hu, sizeOf, typeInfo, hi, run_sameAddr_same]
            have h2 : (Op.equal ty (.pointer (some ⟨b, base + m, none⟩)) (.pointer (some ⟨b, base + m, none⟩))).run P w = .ok true w := heq 9999
            rcases hop with ⟨rfl, rfl⟩ | ⟨rfl, rfl⟩
            · exact .ofVal h (run_binOp ho hv1 hv2 (eqGuard_skip (.inl (by simp)) (by simp)) (r := .bool true) (by simp [binOp, h2])) (.bool _)
            · exact .ofVal h (run_binOp ho hv1 hv2 (eqGuard_skip (.inl (by simp)) (by simp)) (r := .bool false) (by simp [binOp, h2])) (.bool _)
      · cases hpt
    · rw [cond_of_false hb]; trivial
  · exact hk
theorem intsEq_run {a b : List AV} {xs ys : List Value} (ha : VRL E a xs) (hb : VRL E b ys) (d : Nat) : ∀ {fs : List Field} {u : Bool}, intsEq P a b fs = some u → (Op.eqFields (d + 1) ⟨xs⟩ ⟨ys⟩ fs).run P w = .ok u w
  | [], u, h => by simp only [intsEq, Option.some.injEq] at h; subst h; rfl
  | f :: fs, u, h => by
    simp only [intsEq] at h
    split at h
    · rename_i k m k' n e1 e2
      rcases Bool.eq_false_or_eq_true (kindEq k k' && (f.name != "_" && intT P f.type)) with hc | hc
      · rw [cond_of_true hc] at h
        simp only [Bool.and_eq_true] at hc
        have hkk := kindEq_eq hc.1
        subst hkk
        have hname : f.name ≠ "_" := by simpa using hc.2.1
        have hint := hc.2.2
        unfold intT at hint
        split at hint
        · rename_i kd hu
          obtain ⟨v1, h1, h1'⟩ := ha.at_ e1
          obtain ⟨v2, h2, h2'⟩ := hb.at_ e2
          cases h1'
          cases h2'
          have p1 : (part f.type ⟨xs⟩ f.offset).run P w = .ok (.int k m) w := by simp [part, isAgg, run_underlying hu, h1]
          have p2 : (part f.type ⟨ys⟩ f.offset).run P w = .ok (.int k n) w := by simp [part, isAgg, run_underlying hu, h2]
          split at h
          · rename_i u' hu'
            cases h
            have ih := intsEq_run ha hb d hu'
            rw [eqI_eq]
            unfold Op.eqFields
            rw [if_pos hname]
            simp only [Sem.run_bind, p1, p2, Result.andThen_ok, run_equalIn_int w d f.type k kd m n hu]
            by_cases hmn : m = n
            · subst hmn; simp [ih]
            · have : (m == n) = false := by simpa using hmn
              simp [this, hmn]
          · cases h
        · cases hint
      · rw [cond_of_false hc] at h; cases h
    · cases h
theorem structEqC_ok (h : Rel E s w) (hG : GlobOk E G w) (ht : TR E t a) {op : BinOp} {neg : Bool} {ty yt : TypeId} {x y : Operand} (ho : o.op = .binOp op ty x y yt) (hop : (op = .eql ∧ neg = false) ∨ (op = .neq ∧ neg = true)) {k : OpF}
    (hk : OpOk P E s w o a (k t s)) : OpOk P E s w o a (structEqC P ty neg (evC G x) (evC G y) k t s) := by
  have hx := evC_ok hG ht x
  have hy := evC_ok hG ht y
  suffices key : ∀ F, structEqC P ty neg (evC G x) (evC G y) k = F → OpOk P E s w o a (F t s) from key _ rfl
  intro F hF
  unfold structEqC at hF
  split at hF
  · rename_i fields hf
    rcases Bool.eq_false_or_eq_true (!P.stoodInHeld ty && !P.eqGuardType P.depth ty) with hb | hb
    · rw [cond_of_true hb] at hF
      subst hF
      simp only [Bool.and_eq_true, Bool.not_eq_true'] at hb
      simp only
      split
      · rename_i l r e1 e2
        rw [e1] at hx
        rw [e2] at hy
        split
        · rename_i u hu
          generalize hv1 : a.eval x = v1 at hx
          generalize hv2 : a.eval y = v2 at hy
          cases hx with
          | agg hx =>
            rename_i xs
            cases hy with
            | agg hy =>
              rename_i ys
              have hfs : P.fieldsOf ty = fields := by unfold Program.fieldsOf; rw [hf]
              have heq : (Op.equalIn 10000 ty (.agg ⟨xs⟩) (.agg ⟨ys⟩)).run P w = .ok u w := by
                rw [show (10000 : Nat) = 9998 + 1 + 1 from rfl, run_equalIn_struct w (9998 + 1) ty ⟨xs⟩ ⟨ys⟩ (by rw [hfs]; exact hf) hb.1, hfs]
                exact intsEq_run hx hy 9998 hu
              rcases hop with ⟨rfl, rfl⟩ | ⟨rfl, rfl⟩
              · exact .ofVal h (run_binOp ho hv1 hv2 (run_eqGuard_agg w _ _ _ _ _ _ hb.2) (r := .bool u) (by rw [run_eql_struct, heq]; rfl)) (.bool _)
              · exact .ofVal h (run_binOp ho hv1 hv2 (run_eqGuard_agg w _ _ _ _ _ _ hb.2) (r := .bool !u) (by rw [run_neq_struct, heq]; rfl)) (.bool _)
        · exact hk
      · exact hk
    · rw [cond_of_false hb] at hF; subst hF; exact hk
  · subst hF; exact hk
theorem elseC_ok (h : Rel E s w) (hG : GlobOk E G w) (ht : TR E t a) {op : BinOp} {ty yt : TypeId} {x y : Operand} (ho : o.op = .binOp op ty x y yt) :
    OpOk P E s w o a (elseC P G o op ty (evC G x) (evC G y) t s) := by
  have hp : OpOk P E s w o a (plainC P G o t s) := plainC_ok h hG ht (by intro cs b; rw [ho]; simp)
  cases op <;> first | exact structEqC_ok h hG ht ho (.inl ⟨rfl, rfl⟩) (ptrEqC_ok h hG ht ho (.inl ⟨rfl, rfl⟩) (nilEqC_ok h hG ht ho (.inl ⟨rfl, rfl⟩) hp)) | exact structEqC_ok h hG ht ho (.inr ⟨rfl, rfl⟩) (ptrEqC_ok h hG ht ho (.inr ⟨rfl, rfl⟩) (nilEqC_ok h hG ht ho (.inr ⟨rfl, rfl⟩) hp)) | exact hp
theorem binInt_ok (h : Rel E s w) (hG : GlobOk E G w) (ht : TR E t a) {op : BinOp} {ty yt : TypeId} {x y : Operand} (ho : o.op = .binOp op ty x y yt)
    {f : IntKind → Int → Int → AV} (hf : intOp op = some f) : OpOk P E s w o a (binInt (elseC P G o op ty (evC G x) (evC G y)) f (evC G x) (evC G y) t s) := by
  have hx := evC_ok hG ht x
  have hy := evC_ok hG ht y
  unfold binInt
  split
  · rename_i k m k' n e1 e2
    rw [e1] at hx
    rw [e2] at hy
    rcases Bool.eq_false_or_eq_true (kindEq k k') with hk | hk
    · rw [cond_of_true hk]
      have := kindEq_eq hk
      subst this
      generalize hu : a.eval x = u at hx
      generalize hv : a.eval y = v at hy
      cases hx
      cases hy
      obtain ⟨r, h1, h2⟩ := intOp_run (P := P) (E := E) (w := w) hf ty k m n
      exact .ofVal h (run_binOp ho hu hv (eqGuard_int _ _ _ _ _ _ _ _) h1) h2
    · rw [cond_of_false hk]; trivial
  · exact elseC_ok h hG ht ho
theorem strOp_run {op : BinOp} {g : List Nat → List Nat → AV} (hg : strOp op = some g) (ty : TypeId) (x y : ByteArray) :
    ∃ r, VR E (g (x.data.toList.map (·.toNat)) (y.data.toList.map (·.toNat))) r ∧ ((binOp op ty (.string x) (.string y)).run P w = .ok r w ∨ g (x.data.toList.map (·.toNat)) (y.data.toList.map (·.toNat)) = .undef) := by
  cases op <;> simp only [strOp, Option.some.injEq] at hg <;> first | (cases hg; done) | subst hg
  · simp only [List.length_map, Array.length_toList]
    rcases Bool.eq_false_or_eq_true (Nat.ble (x.data.size + y.data.size) 9223372036854775807) with hb | hb
    · rw [cond_of_true hb]
      have hle := Nat.le_of_ble_eq_true hb
      refine ⟨.string (x ++ y), ?_, .inl ?_⟩
      · have : (x.data.toList.map (·.toNat)) ++ (y.data.toList.map (·.toNat)) = ((x ++ y).data.toList.map (·.toNat)) := by simp
        rw [this]; exact .str _
      · have : ¬ (((x.size + y.size : Nat) : Int) > IntKind.i64.max) := by
          have e1 : IntKind.i64.max = 9223372036854775807 := by decide
          rw [e1]
          have e2 : x.size = x.data.size := rfl
          have e3 : y.size = y.data.size := rfl
          omega
        simp only [binOp, Op.stringOp]
        rw [if_neg this]
        rfl
    · rw [cond_of_false hb]
      exact ⟨.nilFunc, .undef _, .inr rfl⟩
  · exact ⟨.bool (x.toList == y.toList), by show VR E (.bool (eqNs _ _)) _; rw [str_eq]; exact .bool _, .inl (by simp [binOp, Op.stringOp])⟩
  · exact ⟨.bool (!(x.toList == y.toList)), by show VR E (.bool (!eqNs _ _)) _; rw [str_eq]; exact .bool _, .inl (by simp [binOp, Op.stringOp])⟩
end
end Go.Am
end
section
namespace Go.Am
section
variable {P : Program} {G : Glob} {E : Env} {s : St} {w : World} {t : T} {a : Act} {o : Oper}
theorem isAgg_run {ty : TypeId} {b : Bool} (h : isAggT P ty = some b) (w : World) : (isAgg ty).run P w = .ok b w := by
  unfold isAggT at h
  cases hu : P.underlying ty with
  | none => rw [hu] at h; cases h
  | some d => rw [hu] at h; cases d <;> cases h <;> simp [isAgg, run_underlying hu]
theorem sizeT_run {ty : TypeId} {n : Nat} (h : sizeT P ty = some n) (w : World) : (sizeOf ty).run P w = .ok n w := by
  unfold sizeT at h
  cases hi : P.info? ty with
  | none => rw [hi] at h; cases h
  | some i => rw [hi] at h; cases h; simp [sizeOf, typeInfo, hi]
theorem bytesT_info {ty : TypeId} {n : Nat} (h : bytesT P ty = some n) : ∃ i, P.info? ty = some i ∧ i.bytes = n := by
  unfold bytesT at h
  cases hi : P.info? ty with
  | none => rw [hi] at h; cases h
  | some i => rw [hi] at h; cases h; exact ⟨i, rfl, rfl⟩
theorem sizeT_info {ty : TypeId} {n : Nat} (h : sizeT P ty = some n) : ∃ i, P.info? ty = some i ∧ i.size = n := by
  unfold sizeT at h
  cases hi : P.info? ty with
  | none => rw [hi] at h; cases h
  | some i => rw [hi] at h; cases h; exact ⟨i, rfl, rfl⟩
theorem zeroT_info {ty : TypeId} {z : AV} (h : zeroT P ty = some z) : ∃ i z', P.info? ty = some i ∧ i.zero = some z' ∧ ofV z' = some z := by
  unfold zeroT at h
  cases hi : P.info? ty with
  | none => rw [hi] at h; simp at h
  | some i =>
    cases hz : i.zero with
    | none => rw [hi] at h; simp [hz] at h
    | some z' => rw [hi] at h; simp [hz] at h; exact ⟨i, z', rfl, hz, h⟩
theorem zeroT_run {ty : TypeId} {z : AV} (h : zeroT P ty = some z) (w : World) : ∃ z', ofV z' = some z ∧ (zeroValue ty).run P w = .ok z' w := by
  obtain ⟨i, z', h1, h2, h3⟩ := zeroT_info h
  exact ⟨z', h3, by simp [zeroValue, typeInfo, h1, h2]⟩
theorem sliceElemT_und {ty e : TypeId} (h : sliceElemT P ty = some e) : P.underlying ty = some (.slice e) := by
  unfold sliceElemT at h
  split at h
  · rename_i e' he; cases h; exact he
  · cases h
theorem shapeT_agg {ty : TypeId} {n : Nat} (h : shapeT P ty = some (some n)) : isAggT P ty = some true ∧ sizeT P ty = some n := by
  unfold shapeT at h
  split at h <;> cases h
  rename_i h1 h2
  exact ⟨h1, h2⟩
theorem shapeT_one {ty : TypeId} (h : shapeT P ty = some none) : isAggT P ty = some false := by
  unfold shapeT at h
  split at h <;> cases h
  rename_i h1 h2
  exact h1
theorem ofV_ne : ∀ {v : Value}, ofV v ≠ some .undef := by
  intro v h
  cases v with
  | pointer p => cases p <;> simp [ofV] at h
  | map p => cases p <;> simp [ofV] at h
  | slice p n c => cases p <;> cases n <;> cases c <;> simp [ofV] at h
  | iface t v => simp only [ofV] at h; split at h <;> cases h
  | agg cs => cases cs; simp only [ofV] at h; split at h <;> cases h
  | tuple cs => cases cs; simp only [ofV] at h; split at h <;> cases h
  | func f x y =>
    obtain ⟨x⟩ := x
    obtain ⟨y⟩ := y
    cases x <;> cases y <;> simp [ofV] at h
  | _ => simp [ofV] at h
theorem VR.cells {x : AV} {v : Value} (h : VR E x v) (hx : x ≠ .undef) : VRL E x.cells v.cells.toList := by
  have key : (x.cells = [x] ∧ v.cells.toList = [v]) ∨ ∃ cs vs, x = .agg cs ∧ v = .agg ⟨vs⟩ ∧ VRL E cs vs := by
    cases h with
    | agg h => exact .inr ⟨_, _, rfl, rfl, h⟩
    | lit v h => exact .inl ⟨rfl, by cases v <;> first | rfl | simp [Value.oneCell'] at h⟩
    | undef => exact absurd rfl hx
    | _ => exact .inl ⟨rfl, rfl⟩
  rcases key with ⟨e1, e2⟩ | ⟨cs, vs, rfl, rfl, h2⟩
  · rw [e1, e2]; exact .cons h .nil
  · exact h2
theorem single_ne {x : AV} (h : x.cells.all AV.single = true) : x ≠ .undef := by
  rintro rfl; simp [AV.cells, AV.single] at h
theorem loadC_ok (h : Rel E s w) (hG : GlobOk E G w) (ht : TR E t a) {ty : TypeId} {x : Operand} (ho : o.op = .load ty x) : OpOk P E s w o a (loadC (shapeT P ty) (evC G x) t s) := by
  have hx := evC_ok hG ht x
  cases hs : shapeT P ty with
  | none => trivial
  | some sh =>
    cases sh with
    | some n =>
      obtain ⟨h1, h2⟩ := shapeT_agg hs
      refine aggO_ok h fun y hy => ?_
      obtain ⟨b, off, vs, e1, e2, e3, e4⟩ := h.cells hy hx
      refine ⟨.agg ⟨vs⟩, ?_, .agg e2⟩
      have hl : (loadCells ⟨b, off, none⟩ n).run P w = .ok ⟨vs⟩ w := by
        have := run_loadCells_list (P := P) (w := w) ⟨b, off, none⟩ vs (fun j v hj => by rw [Addr.add_lit]; exact e4 j v hj)
        rw [← e2.length, e3] at this
        exact this
      simp [execOp, ho, e1, Instr.loadAt, Instr.sureAddr, loadVar, isAgg_run h1, sizeT_run h2, hl]
    | none =>
      have h1 := shapeT_one hs
      refine valO_ok h fun y hy => ?_
      obtain ⟨b, off, u, e1, e2, e3⟩ := h.cell1 hy hx
      refine ⟨u, ?_, e2⟩
      simp [execOp, ho, e1, Instr.loadAt, Instr.sureAddr, loadVar, isAgg_run h1, e3]
theorem skipO_ok {x : Option St} (hx : ∀ s', x = some s' → ∃ w' E', (execOp a.eval o).run P w = .ok .skip w' ∧ Step E s w E' s' w') : OpOk P E s w o a (skipO x) := by
  unfold skipO
  split
  · rename_i s'; exact hx s' rfl
  · trivial
theorem storeC_ok (h : Rel E s w) (hG : GlobOk E G w) (ht : TR E t a) {ty : TypeId} {x y : Operand} (ho : o.op = .store ty x y) : OpOk P E s w o a (storeC (sizeT P ty) (evC G x) (evC G y) t s) := by
  have hx := evC_ok hG ht x
  have hy := evC_ok hG ht y
  cases hs : sizeT P ty with
  | none => trivial
  | some n =>
    simp only [storeC]
    split
    · rename_i r off e1
      rw [e1] at hx
      rcases Bool.eq_false_or_eq_true (n.beq (evC G y t).cells.length && (evC G y t).cells.all AV.single) with hb | hb
      · rw [cond_of_true hb]
        rw [Bool.and_eq_true] at hb
        have hn := Nat.eq_of_beq_eq_true hb.1
        have hc := hy.cells (single_ne hb.2)
        refine skipO_ok fun s' hs' => ?_
        generalize hu : a.eval x = u at hx
        cases hx with
        | ptr off hloc =>
          obtain ⟨c, cty, g1, g2, g3⟩ := Step.store h hs' hc hloc
          refine ⟨_, E, ?_, g3⟩
          have hst := run_storeCells_at P _ _ cty (a.eval y).cells.toList 0 c w g1 (by simpa using g2) (hc.single hb.2)
          simp only [Nat.add_zero] at hst
          have hsz : (a.eval y).cells.size = n := by rw [hn, hc.length]; simp
          simp [execOp, ho, hu, Instr.storeAt, Instr.sureAddr, storeVar, sizeT_run hs, hsz, hst]
      · rw [cond_of_false hb]; trivial
    · trivial
theorem run_box (w : World) (e : TypeId) (v : Value) : (Instr.box e v).run P w = .ok (.pointer (some ⟨w.heap.size, 0, none⟩)) (w.alloc (.cells v.cells e)) := by
  simp [Instr.box, newVar, Go.newRow]
theorem boxC_ok (h : Rel E s w) (hG : GlobOk E G w) (ht : TR E t a) {ty : TypeId} {x : Operand} (ho : o.op = .box ty x) : OpOk P E s w o a (boxC ty (evC G x) t s) := by
  have hx := evC_ok hG ht x
  unfold boxC
  rcases Bool.eq_false_or_eq_true ((evC G x t).cells.all AV.single) with hb | hb
  · rw [cond_of_true hb]
    have hc := hx.cells (single_ne hb)
    refine .inl ⟨_, _, _, ?_, Step.alloc h hc (a.eval x).cells ty (fun i v hi => by simpa using hi) (by rw [hc.length]; simp), VR.newPtr _ _ _ _⟩
    simp [execOp, ho, run_box]
  · rw [cond_of_false hb]; trivial
theorem allocC_ok (h : Rel E s w) {ty : TypeId} (ho : o.op = .alloc ty) : OpOk P E s w o a (allocC ty (zeroT P ty) t s) := by
  cases hz : zeroT P ty with
  | none => trivial
  | some z =>
    obtain ⟨z', h1, h2⟩ := zeroT_run hz w
    have hc := (ofV_ok E h1).cells (fun e => ofV_ne (by rw [h1, e]))
    refine .inl ⟨_, _, _, ?_, Step.alloc h hc z'.cells ty (fun i v hi => by simpa using hi) (by rw [hc.length]; simp), VR.newPtr _ _ _ _⟩
    simp [execOp, ho, Instr.alloc, h2, newVar, Go.newRow]
end
end Go.Am
end
section
namespace Go.Am
section
variable {P : Program} {G : Glob} {E : Env} {s : St} {w : World} {t : T} {a : Act} {o : Oper}
theorem natOf_ok {x : AV} {n : Nat} (h : natOf x = some n) {v : Value} (hv : VR E x v) : ∃ k, v = .int k n := by
  unfold natOf at h
  split at h
  · cases h; cases hv; exact ⟨_, rfl⟩
  · cases h
theorem nilCheckC_ok (h : Rel E s w) (hG : GlobOk E G w) (ht : TR E t a) {x : Operand} (ho : o.op = .nilCheck x) : OpOk P E s w o a (nilCheckC (evC G x) t s) := by
  have hx := evC_ok hG ht x
  generalize hv : a.eval x = v at hx
  unfold nilCheckC
  split
  · rename_i e; rw [e] at hx; cases hx with
    | ptr off hl => exact .ofVal h (v := a.eval x) (by simp [execOp, ho, hv]) (by rw [hv]; exact .ptr _ hl)
  · rename_i e; rw [e] at hx; cases hx with
    | ptrL off h1 h2 => exact .ofVal h (v := a.eval x) (by simp [execOp, ho, hv]) (by rw [hv]; exact .ptrL _ h1 h2)
  · rename_i e; rw [e] at hx; cases hx with
    | hp h1 => exact .ofVal h (v := a.eval x) (by simp [execOp, ho, hv]) (by rw [hv]; exact .hp h1)
  · rename_i e; rw [e] at hx; cases hx with
    | fn h1 h2 => exact .ofVal h (v := a.eval x) (by simp [execOp, ho, hv]) (by rw [hv]; exact .fn h1 h2)
  · trivial
theorem ptrAdd_ok {x y : AV} {n : Nat} (h : ptrAdd x n = some y) {v : Value} (hv : VR E x v) : ∃ b off, v = .pointer (some ⟨b, off, none⟩) ∧ VR E y (.pointer (some ⟨b, off + n, none⟩)) := by
  unfold ptrAdd at h
  split at h
  · cases h; cases hv with
    | ptr off hl => exact ⟨_, _, rfl, by rw [Nat.add_assoc]; exact .ptr _ hl⟩
  · cases h; cases hv with
    | ptrL off h1 h2 => exact ⟨_, _, rfl, by rw [Nat.add_assoc]; exact .ptrL _ h1 h2⟩
  · cases h
theorem fieldAddrC_ok (h : Rel E s w) (hG : GlobOk E G w) (ht : TR E t a) {ty : TypeId} {x : Operand} {f : Nat} (ho : o.op = .fieldAddr ty x f) : OpOk P E s w o a (fieldAddrC P ty f (evC G x) t s) := by
  have hx := evC_ok hG ht x
  unfold fieldAddrC
  cases hu : P.underlying ty with
  | none => trivial
  | some d =>
    cases d with
    | struct fields =>
      cases hf : fields[f]? with
      | none => simp only [hf]; trivial
      | some fd =>
        simp only [hf]
        cases hs : sizeT P fd.type with
        | none => trivial
        | some n =>
          cases n with
          | zero => trivial
          | succ n =>
            refine valO_ok h fun y hy => ?_
            obtain ⟨b, off, e1, e2⟩ := ptrAdd_ok hy hx
            refine ⟨_, ?_, e2⟩
            simp [execOp, ho, e1, Instr.fieldAt, run_underlying hu, hf, Instr.sureAddr, fieldPlace, sizeT_run hs, Addr.add_lit]
    | _ => trivial
theorem part_agg {ty : TypeId} {n off : Nat} {cs y : List AV} {vs : List Value} (h1 : isAggT P ty = some true) (h2 : sizeT P ty = some n) (hc : VRL E cs vs) (hy : cutN n off cs = some y) (w : World) :
    ∃ us, (part ty ⟨vs⟩ off).run P w = .ok (.agg ⟨us⟩) w ∧ VRL E y us := by
  obtain ⟨e1, e2⟩ := takeN_eq hy
  refine ⟨(vs.drop off).take n, ?_, by rw [e1]; exact (hc.drop off).take n⟩
  simp [part, isAgg_run h1, sizeT_run h2]
theorem part_one {ty : TypeId} {off : Nat} {cs : List AV} {y : AV} {vs : List Value} (h1 : isAggT P ty = some false) (hc : VRL E cs vs) (hy : cs[off]? = some y) (w : World) :
    ∃ u, (part ty ⟨vs⟩ off).run P w = .ok u w ∧ VR E y u := by
  obtain ⟨u, h2, h3⟩ := hc.at_ hy
  exact ⟨u, by simp [part, isAgg_run h1, h2], h3⟩
theorem fieldC_ok (h : Rel E s w) (hG : GlobOk E G w) (ht : TR E t a) {ty : TypeId} {x : Operand} {f : Nat} (ho : o.op = .field ty x f) : OpOk P E s w o a (fieldC P ty f (evC G x) t s) := by
  have hx := evC_ok hG ht x
  generalize hv : a.eval x = v at hx
  unfold fieldC
  cases hu : P.underlying ty with
  | none => trivial
  | some d =>
    cases d with
    | struct fields =>
      cases hf : fields[f]? with
      | none => simp only [hf]; trivial
      | some fd =>
        simp only [hf]
        cases hs : shapeT P fd.type with
        | none => trivial
        | some sh =>
          cases sh with
          | some n =>
            simp only
            split
            · rename_i cs e
              rw [e] at hx
              cases hx with
              | agg hc =>
                refine aggO_ok h fun y hy => ?_
                obtain ⟨k1, k2⟩ := shapeT_agg hs
                obtain ⟨us, e1, e2⟩ := part_agg (P := P) k1 k2 hc hy w
                exact ⟨_, by simp [execOp, ho, hv, Instr.field, run_underlying hu, hf, asAgg, e1], .agg e2⟩
            · trivial
          | none =>
            simp only
            split
            · rename_i cs e
              rw [e] at hx
              cases hx with
              | agg hc =>
                refine valO_ok h fun y hy => ?_
                obtain ⟨u, e1, e2⟩ := part_one (P := P) (shapeT_one hs) hc hy w
                exact ⟨_, by simp [execOp, ho, hv, Instr.field, run_underlying hu, hf, asAgg, e1], e2⟩
            · trivial
    | _ => trivial
theorem indexAddrC_ok (h : Rel E s w) (hG : GlobOk E G w) (ht : TR E t a) {ty : TypeId} {x i : Operand} (ho : o.op = .indexAddr ty x i) : OpOk P E s w o a (indexAddrC P ty (evC G x) (evC G i) t s) := by
  have hx := evC_ok hG ht x
  have hi := evC_ok hG ht i
  generalize hv : a.eval x = v at hx
  generalize hiv : a.eval i = iv at hi
  unfold indexAddrC
  cases hu : P.underlying ty with
  | none => trivial
  | some d =>
    cases d with
    | slice e =>
      simp only
      cases hs : sizeT P e with
      | none => trivial
      | some n =>
        simp only
        split
        · rename_i k r off len es tight e1 e2
          obtain ⟨kk, rfl⟩ := natOf_ok e1 hi
          rw [e2] at hx
          rcases Bool.eq_false_or_eq_true (Nat.blt k len && n.beq es) with hb | hb
          · rw [cond_of_true hb]
            rw [Bool.and_eq_true] at hb
            have hlt : k < len := Nat.le_of_ble_eq_true hb.1
            have hn := Nat.eq_of_beq_eq_true hb.2
            subst hn
            cases hx with
            | sl hl hle htt hc hsome =>
              obtain ⟨e3, _⟩ := hc (by omega)
              subst e3
              refine .ofVal h (v := .pointer (some ⟨_, _ + off + k * n, none⟩)) ?_ (by rw [Nat.add_assoc]; exact .ptr _ hl)
              simp [execOp, ho, hv, hiv, Instr.indexAt, asIntOf, run_underlying hu, sizeT_run hs, hlt, Addr.add_lit]
          · rw [cond_of_false hb]; trivial
        · rename_i k cs len tight nl e1 e2
          obtain ⟨kk, rfl⟩ := natOf_ok e1 hi
          rw [e2] at hx
          rcases Bool.eq_false_or_eq_true (Nat.blt k len && nonNil cs) with hb | hb
          · rw [cond_of_true hb]
            rw [Bool.and_eq_true] at hb
            have hlt : k < len := Nat.le_of_ble_eq_true hb.1
            cases hx with
            | lst hcs hle htt hn hc hz =>
              rename_i vs cap ad
              cases ad with
              | none => have := hc rfl; omega
              | some ad =>
                have hvs : vs ≠ [] := by
                  rintro rfl
                  cases hcs
                  simp [nonNil] at hb
                obtain ⟨b, base, e3, e4⟩ := hz hvs
                cases e3
                refine .ofVal h (v := .pointer (some ⟨b, base + k * n, none⟩)) ?_ (.ptrL _ hcs e4)
                simp [execOp, ho, hv, hiv, Instr.indexAt, asIntOf, run_underlying hu, sizeT_run hs, hlt, Addr.add_lit]
          · rw [cond_of_false hb]; trivial
        · trivial
    | array len e =>
      simp only
      cases hs : sizeT P e with
      | none => trivial
      | some n =>
        simp only
        split
        · rename_i k e1
          obtain ⟨kk, rfl⟩ := natOf_ok e1 hi
          rcases Bool.eq_false_or_eq_true (Nat.blt k len) with hb | hb
          · rw [cond_of_true hb]
            have hlt : k < len := Nat.le_of_ble_eq_true hb
            refine valO_ok h fun y hy => ?_
            obtain ⟨b, off, e2, e3⟩ := ptrAdd_ok hy hx
            refine ⟨_, ?_, e3⟩
            subst e2
            simp [execOp, ho, hv, hiv, Instr.indexAt, asIntOf, run_underlying hu, sizeT_run hs, hlt, Addr.add_lit, Instr.sureAddr]
          · rw [cond_of_false hb]; trivial
        · trivial
    | _ => trivial
end
end Go.Am
end
section
namespace Go.Am
section
variable {P : Program} {G : Glob} {E : Env} {s : St} {w : World} {t : T} {a : Act} {o : Oper}
theorem indexC_ok (h : Rel E s w) (hG : GlobOk E G w) (ht : TR E t a) {ty : TypeId} {x i : Operand} (ho : o.op = .index ty x i) : OpOk P E s w o a (indexC P ty (evC G x) (evC G i) t s) := by
  have hx := evC_ok hG ht x
  have hi := evC_ok hG ht i
  generalize hv : a.eval x = v at hx
  generalize hiv : a.eval i = iv at hi
  unfold indexC
  cases hu : P.underlying ty with
  | none => trivial
  | some d =>
    cases d with
    | string =>
      simp only
      split
      · rename_i k l e1 e2
        obtain ⟨kk, rfl⟩ := natOf_ok e1 hi
        rw [e2] at hx
        split
        · rename_i b hb
          cases hx with
          | str bs =>
            rw [List.getElem?_map] at hb
            cases hbs : bs.data.toList[k]? with
            | none => rw [hbs] at hb; cases hb
            | some c =>
              rw [hbs] at hb
              cases hb
              refine .ofVal h (v := .int .u8 c.toNat) ?_ (.int _ _)
              have hk : bs[k]? = some c := by
                have h1 : k < bs.data.size := by
                  rcases Nat.lt_or_ge k bs.data.size with h1 | h1
                  · exact h1
                  · rw [List.getElem?_eq_none (by simpa using h1)] at hbs; cases hbs
                rw [getElem?_pos bs k h1]
                rw [List.getElem?_eq_getElem (by simpa using h1)] at hbs
                exact congrArg some (show bs.data[k] = c by simpa using hbs)
              simp [execOp, ho, hv, hiv, Instr.index, asIntOf, run_underlying hu, hk]
        · trivial
      · trivial
    | array len e =>
      cases hs : shapeT P e with
      | none => simp only [hs]; trivial
      | some sh =>
        cases sh with
        | some n =>
          simp only [hs]
          split
          · rename_i k cs e1 e2
            obtain ⟨kk, rfl⟩ := natOf_ok e1 hi
            rw [e2] at hx
            rcases Bool.eq_false_or_eq_true (Nat.blt k len) with hb | hb
            · rw [cond_of_true hb]
              have hlt : k < len := Nat.le_of_ble_eq_true hb
              cases hx with
              | agg hc =>
                refine aggO_ok h fun y hy => ?_
                obtain ⟨k1, k2⟩ := shapeT_agg hs
                obtain ⟨us, e3, e4⟩ := part_agg (P := P) k1 k2 hc hy w
                exact ⟨_, by simp [execOp, ho, hv, hiv, Instr.index, asIntOf, run_underlying hu, sizeT_run k2, hlt, e3], .agg e4⟩
            · rw [cond_of_false hb]; trivial
          · trivial
        | none =>
          cases hn : sizeT P e with
          | none => simp only [hs, hn]; trivial
          | some n =>
            simp only [hs, hn]
            split
            · rename_i k cs e1 e2
              obtain ⟨kk, rfl⟩ := natOf_ok e1 hi
              rw [e2] at hx
              rcases Bool.eq_false_or_eq_true (Nat.blt k len) with hb | hb
              · rw [cond_of_true hb]
                have hlt : k < len := Nat.le_of_ble_eq_true hb
                cases hx with
                | agg hc =>
                  refine valO_ok h fun y hy => ?_
                  obtain ⟨u, e3, e4⟩ := part_one (P := P) (shapeT_one hs) hc hy w
                  exact ⟨_, by simp [execOp, ho, hv, hiv, Instr.index, asIntOf, run_underlying hu, sizeT_run hn, hlt, e3], e4⟩
              · rw [cond_of_false hb]; trivial
            · trivial
    | _ => trivial
theorem bound_ok {x : Option Operand} (hG : GlobOk E G w) (ht : TR E t a) {d n : Nat} (h : bound d (optE (x.map (evC G)) t) = some n) :
    (x = none ∧ n = d) ∨ ∃ y k, x = some y ∧ a.eval y = .int k n := by
  cases x with
  | none => simp [optE, bound] at h; exact .inl ⟨rfl, h.symm⟩
  | some y =>
    simp only [Option.map_some, optE, bound] at h
    obtain ⟨k, hk⟩ := natOf_ok h (evC_ok hG ht y)
    exact .inr ⟨y, k, rfl, hk⟩
theorem run_sliceBound {k : IntKind} {n y : Nat} (code : BoundsCode) (h : n ≤ y) (w : World) : (Instr.sliceBound (.int k n) y code).run P w = .ok n w := by
  simp [Instr.sliceBound, asIntOf, h]
theorem run_sliceBounds (isSlice : Bool) {len cap l h m : Nat} {lo hi mx : Option Value} (hlo : (lo = none ∧ l = 0) ∨ ∃ k, lo = some (.int k l)) (hhi : (hi = none ∧ h = len) ∨ ∃ k, hi = some (.int k h))
    (hmx : (mx = none ∧ m = cap) ∨ ∃ k, mx = some (.int k m) ∧ hi.isSome = true) (h1 : l ≤ h) (h2 : h ≤ m) (h3 : m ≤ cap) (w : World) :
    (Instr.sliceBounds isSlice len cap lo hi mx).run P w = .ok (l, h, m) w := by
  unfold Instr.sliceBounds
  rcases hlo with ⟨rfl, rfl⟩ | ⟨k1, rfl⟩ <;> rcases hhi with ⟨rfl, rfl⟩ | ⟨k2, rfl⟩ <;> rcases hmx with ⟨rfl, rfl⟩ | ⟨k3, rfl, hs⟩ <;>
    simp_all [run_sliceBound]
theorem maxb_ok {x hi : Option Operand} (hG : GlobOk E G w) (ht : TR E t a) {m : AV} {mi : Nat} (h : optE (x.map (evC G)) t = some m) (hm : natOf m = some mi) {y : AV} (hy : optE (hi.map (evC G)) t = some y) :
    ∃ k, x.map a.eval = some (.int k mi) ∧ (hi.map a.eval).isSome = true := by
  cases x with
  | none => simp [optE] at h
  | some x =>
    simp only [Option.map_some, optE, Option.some.injEq] at h
    subst h
    obtain ⟨k, hk⟩ := natOf_ok hm (evC_ok hG ht x)
    cases hi with
    | none => simp [optE] at hy
    | some z => exact ⟨k, by simp [hk], rfl⟩
theorem sliceA_ok (hG : GlobOk E G w) (ht : TR E t a) {es : Nat} {x y : AV} {lo hi mx : Option Operand} (hx : ∀ b, x ≠ .str b)
    (h : sliceA es x (optE (lo.map (evC G)) t) (optE (hi.map (evC G)) t) (optE (mx.map (evC G)) t) = some y) {v : Value} (hv : VR E x v) (isSlice : Bool) (w : World) :
    ∃ (ad : Option Addr) (len cap l hh m : Nat), v = .slice ad len cap ∧ (Instr.sliceBounds isSlice len cap (lo.map a.eval) (hi.map a.eval) (mx.map a.eval)).run P w = .ok (l, hh, m) w ∧
      VR E y (.slice (if m = l then ad else ad.map (·.add (l * es))) (hh - l) (m - l)) := by
  have hlo : ∀ {n : Nat}, bound 0 (optE (lo.map (evC G)) t) = some n → (lo.map a.eval = none ∧ n = 0) ∨ ∃ k, lo.map a.eval = some (.int k n) := by
    intro n hn
    rcases bound_ok hG ht hn with ⟨rfl, h2⟩ | ⟨y, k, rfl, h3⟩
    · exact .inl ⟨rfl, h2⟩
    · exact .inr ⟨k, by simp [h3]⟩
  have hhi : ∀ {d n : Nat}, bound d (optE (hi.map (evC G)) t) = some n → (hi.map a.eval = none ∧ n = d) ∨ ∃ k, hi.map a.eval = some (.int k n) := by
    intro d n hn
    rcases bound_ok hG ht hn with ⟨rfl, h2⟩ | ⟨y, k, rfl, h3⟩
    · exact .inl ⟨rfl, h2⟩
    · exact .inr ⟨k, by simp [h3]⟩
  have hnone : optE (mx.map (evC G)) t = none → mx.map a.eval = none := by
    intro hn; cases mx with
    | none => rfl
    | some z => simp [optE] at hn
  unfold sliceA at h
  split at h
  · rename_i b; exact absurd rfl (hx b)
  · rename_i cs len tight nl
    split at h
    · rename_i l hh hl hhh
      rcases Bool.eq_false_or_eq_true (Nat.ble l hh && Nat.ble hh len) with hb | hb
      · rw [cond_of_true hb] at h
        rw [Bool.and_eq_true] at hb
        have h1 := Nat.le_of_ble_eq_true hb.1
        have h2 := Nat.le_of_ble_eq_true hb.2
        cases hv with
        | lst hcs hle htt hn hc hz =>
          rename_i vs cap ad
          -- the cells of the cut
          have fin : ∀ (m : Nat) (tight' : Bool), hh ≤ m → m ≤ cap → (tight' = true → m = hh) →
              VR E (.lst ((cs.drop (l * es)).take ((hh - l) * es)) (hh - l) tight' nl) (.slice (if m = l then ad else ad.map (·.add (l * es))) (hh - l) (m - l)) := by
            intro m tight' hm1 hm2 hm3
            refine .lst ((hcs.drop (l * es)).take ((hh - l) * es)) (by omega) (fun e => by rw [hm3 e]) ?_ ?_ ?_
            · rw [← hn]; split <;> cases ad <;> rfl
            · intro e
              have : ad = none := by
                split at e
                · exact e
                · cases ad with
                  | none => rfl
                  | some _ => cases e
              have := hc this
              omega
            · intro hne
              have hml : m ≠ l := by
                rintro rfl
                have : hh - m = 0 := by omega
                rw [this] at hne
                simp at hne
              have hvs : vs ≠ [] := by rintro rfl; simp at hne
              obtain ⟨b, base, e1, e2⟩ := hz hvs
              subst e1
              rw [if_neg hml]
              refine ⟨b, base + l * es, by simp [Addr.add_lit], fun i v hi2 => ?_⟩
              rw [List.getElem?_take] at hi2
              split at hi2
              · rw [List.getElem?_drop] at hi2
                rw [Nat.add_assoc]; exact e2 _ v hi2
              · cases hi2
          split at h
          · rename_i hm
            cases h
            exact ⟨ad, len, cap, l, hh, cap, rfl, run_sliceBounds isSlice (hlo hl) (hhi hhh) (.inl ⟨hnone hm, rfl⟩) h1 (by omega) (Nat.le_refl _) w,
              fin cap _ (by omega) (Nat.le_refl _) (fun e => by rw [Bool.and_eq_true] at e; have := Nat.eq_of_beq_eq_true e.2; rw [htt e.1]; exact this.symm)⟩
          · rename_i mm yy hm hy2
            split at h
            · rename_i mi hmi
              rcases Bool.eq_false_or_eq_true (mi.beq hh) with hq | hq
              · rw [cond_of_true hq] at h
                have := Nat.eq_of_beq_eq_true hq
                subst this
                cases h
                obtain ⟨k, e1, e2⟩ := maxb_ok hG ht hm hmi hy2
                exact ⟨ad, len, cap, l, mi, mi, rfl, run_sliceBounds isSlice (hlo hl) (hhi hhh) (.inr ⟨k, e1, e2⟩) h1 (Nat.le_refl _) (by omega) w, fin mi true (Nat.le_refl _) (by omega) (fun _ => rfl)⟩
              · rw [cond_of_false hq] at h; cases h
            · cases h
          · cases h
      · rw [cond_of_false hb] at h; cases h
    · cases h
  · rename_i r off len es' tight
    split at h
    · rename_i l hh hl hhh
      rcases Bool.eq_false_or_eq_true (Nat.ble l hh && Nat.ble hh len && es.beq es') with hb | hb
      · rw [cond_of_true hb] at h
        rw [Bool.and_eq_true, Bool.and_eq_true] at hb
        have h1 := Nat.le_of_ble_eq_true hb.1.1
        have h2 := Nat.le_of_ble_eq_true hb.1.2
        have hes := Nat.eq_of_beq_eq_true hb.2
        subst hes
        cases hv with
        | sl hl0 hle htt hc hsome =>
          rename_i b base cap ad
          have fin : ∀ (m : Nat) (tight' : Bool), hh ≤ m → m ≤ cap → (tight' = true → m = hh) →
              VR E (.sl r (off + l * es) (hh - l) es tight') (.slice (if m = l then ad else ad.map (·.add (l * es))) (hh - l) (m - l)) := by
            intro m tight' hm1 hm2 hm3
            refine .sl hl0 (by omega) (fun e => by rw [hm3 e]) (fun hpos => ?_) (by split <;> simpa using hsome)
            obtain ⟨e1, e2⟩ := hc (by omega)
            subst e1
            rw [if_neg (by omega)]
            refine ⟨by simp [Addr.add_lit, Nat.add_assoc], ?_⟩
            have hmul : m * es ≤ cap * es := Nat.mul_le_mul_right _ hm2
            have hsub : (m - l) * es + l * es = m * es := by rw [← Nat.add_mul]; congr 1; omega
            omega
          split at h
          · rename_i hm
            cases h
            exact ⟨ad, len, cap, l, hh, cap, rfl, run_sliceBounds isSlice (hlo hl) (hhi hhh) (.inl ⟨hnone hm, rfl⟩) h1 (by omega) (Nat.le_refl _) w,
              fin cap _ (by omega) (Nat.le_refl _) (fun e => by rw [Bool.and_eq_true] at e; have := Nat.eq_of_beq_eq_true e.2; rw [htt e.1]; exact this.symm)⟩
          · rename_i mm yy hm hy2
            split at h
            · rename_i mi hmi
              rcases Bool.eq_false_or_eq_true (mi.beq hh) with hq | hq
              · rw [cond_of_true hq] at h
                have := Nat.eq_of_beq_eq_true hq
                subst this
                cases h
                obtain ⟨k, e1, e2⟩ := maxb_ok hG ht hm hmi hy2
                exact ⟨ad, len, cap, l, mi, mi, rfl, run_sliceBounds isSlice (hlo hl) (hhi hhh) (.inr ⟨k, e1, e2⟩) h1 (Nat.le_refl _) (by omega) w, fin mi true (Nat.le_refl _) (by omega) (fun _ => rfl)⟩
              · rw [cond_of_false hq] at h; cases h
            · cases h
          · cases h
      · rw [cond_of_false hb] at h; cases h
    · cases h
  · cases h
theorem sliceStr_ok (hG : GlobOk E G w) (ht : TR E t a) {es : Nat} {b : List Nat} {y : AV} {lo hi mx : Option Operand}
    (h : sliceA es (.str b) (optE (lo.map (evC G)) t) (optE (hi.map (evC G)) t) (optE (mx.map (evC G)) t) = some y) {v : Value} (hv : VR E (.str b) v) (w : World) :
    ∃ (bs : ByteArray) (l hh m : Nat), v = .string bs ∧ mx = none ∧ (Instr.sliceBounds false bs.size bs.size (lo.map a.eval) (hi.map a.eval) none).run P w = .ok (l, hh, m) w ∧
      VR E y (.string (bs.extract l hh)) := by
  cases hv with
  | str bs =>
    simp only [sliceA] at h
    split at h
    · rename_i l hh hl hhh hm
      rcases Bool.eq_false_or_eq_true (Nat.ble l hh && Nat.ble hh (bs.data.toList.map (·.toNat)).length) with hb | hb
      · rw [cond_of_true hb] at h
        rw [Bool.and_eq_true] at hb
        have h1 := Nat.le_of_ble_eq_true hb.1
        have h2 := Nat.le_of_ble_eq_true hb.2
        simp only [List.length_map, Array.length_toList] at h2
        cases h
        have hsz : bs.size = bs.data.size := rfl
        refine ⟨bs, l, hh, bs.size, rfl, ?_, run_sliceBounds false ?_ ?_ (.inl ⟨rfl, rfl⟩) h1 (by omega) (Nat.le_refl _) w, ?_⟩
        · cases mx with
          | none => rfl
          | some z => simp [optE] at hm
        · rcases bound_ok hG ht hl with ⟨rfl, h3⟩ | ⟨y, k, rfl, h3⟩
          · exact .inl ⟨rfl, h3⟩
          · exact .inr ⟨k, by simp [h3]⟩
        · rcases bound_ok hG ht hhh with ⟨rfl, h3⟩ | ⟨y, k, rfl, h3⟩
          · exact .inl ⟨rfl, by rw [h3, hsz, List.length_map, Array.length_toList]⟩
          · exact .inr ⟨k, by simp [h3]⟩
        · have e : ((bs.data.toList.map (·.toNat)).drop l).take (hh - l) = ((bs.extract l hh).data.toList.map (·.toNat)) := by
            rw [Lib.extract_data]
            simp [List.map_take, List.map_drop]
          rw [e]; exact .str _
      · rw [cond_of_false hb] at h; cases h
    · cases h
end
end Go.Am
end
section
namespace Go.Am
section
variable {P : Program} {G : Glob} {E : Env} {s : St} {w : World} {t : T} {a : Act} {o : Oper}
theorem foldl_set (off : Nat) : ∀ (us : List Value) (k : Nat) (cs : Array Value),
    ((us.zipIdx k).foldl (fun (cs : Array Value) (p : Value × Nat) => cs.setIfInBounds (off + p.2) p.1) cs).size = cs.size ∧
    ∀ i, ((us.zipIdx k).foldl (fun (cs : Array Value) (p : Value × Nat) => cs.setIfInBounds (off + p.2) p.1) cs)[i]? =
      if off + k ≤ i ∧ i < off + k + us.length ∧ i < cs.size then us[i - (off + k)]? else cs[i]?
  | [], k, cs => ⟨rfl, fun i => by rw [if_neg (by intro hh; simp at hh; omega)]; rfl⟩
  | u :: us, k, cs => by
    obtain ⟨h1, h2⟩ := foldl_set off us (k + 1) (cs.setIfInBounds (off + k) u)
    simp only [List.zipIdx_cons, List.foldl_cons]
    refine ⟨h1.trans (by simp), fun i => ?_⟩
    rw [h2 i]
    simp only [Array.size_setIfInBounds, List.length_cons]
    by_cases c1 : off + (k + 1) ≤ i ∧ i < off + (k + 1) + us.length ∧ i < cs.size
    · rw [if_pos c1, if_pos (by omega)]
      rw [show i - (off + k) = (i - (off + (k + 1))) + 1 by omega, List.getElem?_cons_succ]
    · rw [if_neg c1]
      by_cases c2 : off + k = i
      · by_cases c3 : i < cs.size
        · rw [if_pos (by omega)]
          subst c2
          rw [Array.getElem?_setIfInBounds_self]
          simp [c3]
        · rw [if_neg (by omega)]
          rw [Array.setIfInBounds_eq_of_size_le (by omega)]
      · rw [if_neg (by omega), Array.getElem?_setIfInBounds_ne c2]
theorem isDef_ne {x : AV} (h : x.isDef = true) : x ≠ .undef := by rintro rfl; simp [AV.isDef] at h
inductive PartsR (E : Env) (place : Nat → Option (Nat × Nat)) : List ((Nat × Nat) × AV) → List (Nat × Value) → Prop
  | nil : PartsR E place [] []
  | cons {i : Nat} {p : Nat × Nat} {x : AV} {v : Value} {l : List ((Nat × Nat) × AV)} {r : List (Nat × Value)} (hp : place i = some p) (hx : VR E x v) (hl : PartsR E place l r) :
      PartsR E place ((p, x) :: l) ((i, v) :: r)
theorem fill_ok {place : Nat → Option (Nat × Nat)} : ∀ {l : List ((Nat × Nat) × AV)} {r : List (Nat × Value)}, PartsR E place l r → ∀ {cells q : List AV} {cs : Array Value}, VRL E cells cs.toList →
    fillA cells l = some q → ∃ cs', Instr.fill place cs r = some cs' ∧ VRL E q cs'.toList
  | _, _, .nil, cells, q, cs, hc, h => by simp [fillA] at h; subst h; exact ⟨cs, rfl, hc⟩
  | _, _, .cons (p := (off, size)) (x := x) (v := v) hp hx hl, cells, q, cs, hc, h => by
    simp only [fillA] at h
    rcases Bool.eq_false_or_eq_true (size.beq x.cells.length && x.isDef) with hb | hb
    · rw [cond_of_true hb] at h
      rw [Bool.and_eq_true] at hb
      have hsz := Nat.eq_of_beq_eq_true hb.1
      have hxc := hx.cells (isDef_ne hb.2)
      split at h
      · rename_i cs2 ho
        obtain ⟨l1, l2⟩ := overwrite_len ho
        have hxl := hxc.length
        have hcl := hc.length
        simp only [Array.length_toList] at hxl hcl
        obtain ⟨f1, f2⟩ := foldl_set off v.cells.toList 0 cs
        have e0 : (v.cells.zipIdx.foldl (fun cs (c, j) => cs.setIfInBounds (off + j) c) cs) = ((v.cells.toList.zipIdx 0).foldl (fun (cs : Array Value) (p : Value × Nat) => cs.setIfInBounds (off + p.2) p.1) cs) := by
          rw [← Array.foldl_toList, Array.toList_zipIdx]
        have hnew : VRL E cs2 ((v.cells.toList.zipIdx 0).foldl (fun (cs : Array Value) (p : Value × Nat) => cs.setIfInBounds (off + p.2) p.1) cs).toList := by
          refine VRL.of_get (by rw [l1, hcl, Array.length_toList]; exact f1.symm) (fun i y u hy hu => ?_)
          rw [Array.getElem?_toList, f2 i] at hu
          have hg := overwrite_get ho i
          rw [hy] at hg
          simp only [Array.length_toList, Nat.add_zero] at hu
          by_cases c1 : off ≤ i ∧ i < off + x.cells.length
          · rw [if_pos c1] at hg
            rw [if_pos (by omega)] at hu
            obtain ⟨u', hu', hr⟩ := hxc.at_ hg.symm
            rw [hu'] at hu; cases hu; exact hr
          · rw [if_neg c1] at hg
            rw [if_neg (by omega)] at hu
            obtain ⟨u', hu', hr⟩ := hc.at_ hg.symm
            rw [Array.getElem?_toList, hu] at hu'; cases hu'; exact hr
        obtain ⟨cs', g1, g2⟩ := fill_ok hl hnew h
        refine ⟨cs', ?_, g2⟩
        simp only [Instr.fill, hp]
        rw [if_neg (by simp; omega), e0]
        exact g1
      · cases h
    · rw [cond_of_false hb] at h; cases h
theorem zipParts_ok (hG : GlobOk E G w) (ht : TR E t a) {place : Nat → Option (Nat × Nat)} : ∀ (parts : List (Nat × Operand)) {l : List ((Nat × Nat) × AV)},
    zipParts (parts.map fun p => place p.1) (parts.map fun p => evC G p.2) t = some l → PartsR E place l (parts.map fun p => (p.1, a.eval p.2))
  | [], l, h => by simp [zipParts] at h; subst h; exact .nil
  | (i, x) :: parts, l, h => by
    simp only [List.map_cons] at h ⊢
    cases hp : place i with
    | none => rw [hp] at h; simp [zipParts] at h
    | some p =>
      rw [hp] at h
      simp only [zipParts] at h
      split at h
      · rename_i q hq
        cases h
        exact .cons hp (evC_ok hG ht x) (zipParts_ok hG ht parts hq)
      · cases h
theorem buildC_ok (h : Rel E s w) (hG : GlobOk E G w) (ht : TR E t a) {ty : TypeId} {parts : Array (Nat × Operand)} (ho : o.op = .build ty parts) : OpOk P E s w o a (buildC P G ty parts.toList t s) := by
  have hparts : (parts.map fun (i, x) => (i, a.eval x)).toList = parts.toList.map fun p => (p.1, a.eval p.2) := by simp
  cases hz : zeroT P ty with
  | none => simp only [buildC, hz]; trivial
  | some z0 =>
    cases z0 with
    | agg z =>
      obtain ⟨it, z', i1, i2, i3⟩ := zeroT_info hz
      have hzc : VRL E z z'.cells.toList := (ofV_ok E i3).cells (by simp)
      cases hu : P.underlying ty with
      | none => simp only [buildC, hz, hu]; trivial
      | some d =>
        cases d with
        | struct fields =>
          cases hp : placesT P fields with
          | none => simp only [buildC, hz, hu, hp]; trivial
          | some places =>
            simp only [buildC, hz, hu, hp]
            split
            · rename_i ps hps
              refine aggO_ok h fun y hy => ?_
              have hpl := zipParts_ok (place := fun i => places[i]?) hG ht parts.toList hps
              obtain ⟨cs', g1, g2⟩ := fill_ok hpl hzc hy
              refine ⟨.agg cs', ?_, .agg g2⟩
              have hrun : (Instr.build ty (parts.map fun (i, x) => (i, a.eval x))).run P w = .ok (.agg cs') w := by
                refine run_build w ty _ cs' ?_
                rw [hparts]
                unfold placesT at hp
                simp only [Program.built, i1, hu, i2, hp]
                rw [← g1]
                congr 1
                funext i
                simp
              simp [execOp, ho, hrun]
            · trivial
        | array len e =>
          cases hs : sizeT P e with
          | none => simp only [buildC, hz, hu, hs]; trivial
          | some n =>
            simp only [buildC, hz, hu, hs]
            split
            · rename_i ps hps
              refine aggO_ok h fun y hy => ?_
              have hpl := zipParts_ok (place := fun i => some (i * n, n)) hG ht parts.toList hps
              obtain ⟨cs', g1, g2⟩ := fill_ok hpl hzc hy
              refine ⟨.agg cs', ?_, .agg g2⟩
              obtain ⟨ie, e1, e2⟩ := sizeT_info hs
              have hrun : (Instr.build ty (parts.map fun (i, x) => (i, a.eval x))).run P w = .ok (.agg cs') w := by
                refine run_build w ty _ cs' ?_
                rw [hparts]
                simp [Program.built, i1, i2, hu, e1, e2, g1]
              simp [execOp, ho, hrun]
            · trivial
        | _ => simp only [buildC, hz, hu]; trivial
    | _ => simp only [buildC, hz]; trivial
theorem replic_len (z : List AV) : ∀ n, (replic n z).length = n * z.length
  | 0 => by simp [replic]
  | n + 1 => by simp only [replic, List.length_append, replic_len z n, Nat.add_mul]; omega
theorem replic_get (z : List AV) : ∀ (n i : Nat), i < n * z.length → (replic n z)[i]? = z[i % z.length]?
  | 0, i, h => by simp at h
  | n + 1, i, h => by
    simp only [replic, List.getElem?_append]
    have hz : 0 < z.length := by
      rcases Nat.eq_zero_or_pos z.length with h0 | h0
      · rw [h0] at h; simp at h
      · exact h0
    split
    · rename_i h1; rw [Nat.mod_eq_of_lt h1]
    · rename_i h1
      rw [replic_get z n (i - z.length) (by rw [Nat.add_mul] at h; omega)]
      congr 1
      conv => rhs; rw [show i = (i - z.length) + z.length by omega]
      rw [Nat.add_mod_right]
theorem zeros_ok {z : List AV} {zs : Array Value} (hz : VRL E z zs.toList) {n m : Nat} (hm : n * z.length ≤ m) :
    ∃ vs, VRL E (replic n z) vs ∧ ∀ (i : Nat) (v : Value), vs[i]? = some v → ((Array.range m).map (zs[· % zs.size]!))[i]? = some v := by
  have hl := hz.length
  simp only [Array.length_toList] at hl
  refine ⟨((Array.range m).map (zs[· % zs.size]!)).toList.take (n * z.length), ?_, fun i v hv => ?_⟩
  · refine VRL.of_get ?_ (fun i x v hx hv => ?_)
    · rw [replic_len]; simp; omega
    · rw [List.getElem?_take] at hv
      split at hv
      · rename_i hi
        rw [replic_get z n i hi] at hx
        obtain ⟨u, hu, hr⟩ := hz.at_ hx
        have hz0 : 0 < zs.size := by
          rcases Nat.eq_zero_or_pos zs.size with h0 | h0
          · rw [hl, h0] at hi; simp at hi
          · exact h0
        have hmod : i % zs.size < zs.size := Nat.mod_lt _ hz0
        rw [Array.getElem?_toList, Array.getElem?_map, Array.getElem?_range] at hv
        rw [if_pos (by omega)] at hv
        simp only [Option.map_some, Option.some.injEq] at hv
        rw [getElem!_pos zs _ hmod] at hv
        rw [hl, Array.getElem?_toList, Array.getElem?_eq_getElem hmod] at hu
        cases hu
        rw [← hv]; exact hr
      · cases hv
  · rw [List.getElem?_take] at hv
    split at hv
    · rwa [Array.getElem?_toList] at hv
    · cases hv
theorem buildSliceC_ok (h : Rel E s w) (hG : GlobOk E G w) (ht : TR E t a) {ty : TypeId} {len : Nat} {parts : Array (Nat × Operand)} (ho : o.op = .buildSlice ty len parts) :
    OpOk P E s w o a (buildSliceC P G ty len parts.toList t s) := by
  have hparts : (parts.map fun (i, x) => (i, a.eval x)).toList = parts.toList.map fun p => (p.1, a.eval p.2) := by simp
  cases he : sliceElemT P ty with
  | none => simp only [buildSliceC, he]; trivial
  | some e =>
    have hu := sliceElemT_und he
    cases hs : sizeT P e with
    | none => simp only [buildSliceC, he, hs]; trivial
    | some n =>
      cases hz : zeroT P e with
      | none => simp only [buildSliceC, he, hs, hz]; trivial
      | some z =>
        obtain ⟨ie, z', i1, i2, i3⟩ := zeroT_info hz
        obtain ⟨ie2, e1, e2⟩ := sizeT_info hs
        rw [i1] at e1; cases e1
        have hzc : VRL E z.cells z'.cells.toList := (ofV_ok E i3).cells (fun e => ofV_ne (by rw [i3, e]))
        simp only [buildSliceC, he, hs, hz]
        rcases Bool.eq_false_or_eq_true (n.beq z.cells.length && Nat.ble (len * n) 16777216 && Nat.blt 0 n) with hb | hb
        · rw [cond_of_true hb]
          rw [Bool.and_eq_true, Bool.and_eq_true] at hb
          have hn := Nat.eq_of_beq_eq_true hb.1.1
          have hle := Nat.le_of_ble_eq_true hb.1.2
          have hn0 : 0 < n := Nat.le_of_ble_eq_true hb.2
          split
          · rename_i ps hps
            split
            · rename_i cs hcs
              rcases Bool.eq_false_or_eq_true (cs.all AV.single) with hb2 | hb2
              · rw [cond_of_true hb2]
                obtain ⟨vs, v1, v2⟩ := zeros_ok (n := len) (m := len * n) hzc (by rw [← hn]; exact Nat.le_refl _)
                have hvl := v1.length
                rw [replic_len, ← hn] at hvl
                have hvs : VRL E (replic len z.cells) ((Array.range (len * n)).map (z'.cells[· % z'.cells.size]!)).toList := by
                  have : vs = ((Array.range (len * n)).map (z'.cells[· % z'.cells.size]!)).toList := by
                    apply List.ext_getElem?
                    intro i
                    cases hvi : vs[i]? with
                    | some v => rw [Array.getElem?_toList, v2 i v hvi]
                    | none =>
                      symm
                      rw [List.getElem?_eq_none_iff]
                      rw [List.getElem?_eq_none_iff] at hvi
                      simp; omega
                  rw [← this]; exact v1
                have hpl := zipParts_ok (place := fun i => some (i * n, n)) hG ht parts.toList hps
                obtain ⟨cs', g1, g2⟩ := fill_ok hpl hvs hcs
                have hcl := g2.length
                simp only [Array.length_toList] at hcl
                have hrun : (Instr.buildSlice ty len (parts.map fun (i, x) => (i, a.eval x))).run P w = .ok (.slice (some ⟨w.heap.size, 0, none⟩) len len) (w.alloc (.cells cs' e)) := by
                  have hbig : ¬ len * ie.size > 2 ^ 24 := by rw [e2]; omega
                  subst e2
                  by_cases h0 : len * ie.size = 0
                  · have hl0 : len = 0 := by rcases Nat.mul_eq_zero.1 h0 with h1 | h1 <;> omega
                    subst hl0
                    rw [h0, show Array.range 0 = #[] from rfl, Array.map_empty] at g1
                    simp [Instr.buildSlice, run_underlying hu, sizeOf, typeInfo, i1, show Array.range 0 = #[] from rfl, g1, Go.newRow]
                  · simp [Instr.buildSlice, run_underlying hu, sizeOf, typeInfo, zeroValue, i1, i2, hbig, h0, g1, Go.newRow]
                refine .inl ⟨_, _, _, by simp only [execOp, ho, Sem.run_bind, hrun, Result.andThen_ok]; rfl, Step.alloc h g2 cs' e (fun i v hi => by simpa using hi) (by omega), ?_⟩
                refine .sl (base := 0) (Env.add_self _ _ _ _ _) (Nat.le_refl _) (fun _ => rfl) (fun _ => ⟨rfl, ?_⟩) (by simp)
                simp only [Env.add, if_true]
                have hfl : cs.length = len * n := by
                  have : ∀ {l : List ((Nat × Nat) × AV)} {c q : List AV}, fillA c l = some q → q.length = c.length := by
                    intro l
                    induction l with
                    | nil => intro c q hq; simp [fillA] at hq; rw [hq]
                    | cons p l ih =>
                      obtain ⟨⟨of, sz⟩, v⟩ := p
                      intro c q hq
                      simp only [fillA] at hq
                      rcases Bool.eq_false_or_eq_true (sz.beq v.cells.length && v.isDef) with hb | hb
                      · rw [cond_of_true hb] at hq
                        split at hq
                        · rename_i c2 hc2
                          rw [ih hq, (overwrite_len hc2).1]
                        · cases hq
                      · rw [cond_of_false hb] at hq; cases hq
                  rw [this hcs, replic_len, ← hn]
                omega
              · rw [cond_of_false hb2]; trivial
            · trivial
          · trivial
        · rw [cond_of_false hb]; trivial
theorem makeSliceC_ok (h : Rel E s w) (hG : GlobOk E G w) (ht : TR E t a) {ty : TypeId} {l c : Operand} (ho : o.op = .makeSlice ty l c) : OpOk P E s w o a (makeSliceC P ty (evC G l) (evC G c) t s) := by
  have hl := evC_ok hG ht l
  have hc := evC_ok hG ht c
  cases he : sliceElemT P ty with
  | none => simp only [makeSliceC, he]; trivial
  | some e =>
    have hu := sliceElemT_und he
    cases hz : zeroT P e with
    | none => simp only [makeSliceC, he, hz]; trivial
    | some z =>
      cases hs : sizeT P e with
      | none => simp only [makeSliceC, he, hs, hz]; trivial
      | some n =>
        cases hb : bytesT P e with
        | none => simp only [makeSliceC, he, hs, hz, hb]; trivial
        | some b =>
          obtain ⟨ie, z', i1, i2, i3⟩ := zeroT_info hz
          obtain ⟨ie2, e1, e2⟩ := sizeT_info hs
          rw [i1] at e1; cases e1
          obtain ⟨ie3, e3, e4⟩ := bytesT_info hb
          rw [i1] at e3; cases e3
          have hzc : VRL E z.cells z'.cells.toList := (ofV_ok E i3).cells (fun e => ofV_ne (by rw [i3, e]))
          simp only [makeSliceC, he, hs, hz, hb]
          rcases Bool.eq_false_or_eq_true (n.beq z.cells.length && Nat.ble b 65536) with hq | hq
          · rw [cond_of_true hq]
            rw [Bool.and_eq_true] at hq
            have hn := Nat.eq_of_beq_eq_true hq.1
            have hbb := Nat.le_of_ble_eq_true hq.2
            split
            · rename_i l0 c0 h1 h2
              obtain ⟨kl, hl'⟩ := natOf_ok h1 hl
              obtain ⟨kc, hc'⟩ := natOf_ok h2 hc
              rcases Bool.eq_false_or_eq_true (Nat.ble l0 c0 && Nat.ble c0 1073741824) with hq2 | hq2
              · rw [cond_of_true hq2]
                rw [Bool.and_eq_true] at hq2
                have hle := Nat.le_of_ble_eq_true hq2.1
                have hcc := Nat.le_of_ble_eq_true hq2.2
                have hmul : b * c0 ≤ 65536 * 1073741824 := Nat.mul_le_mul hbb hcc
                have h9 : (ie.bytes : Int) * (c0 : Int) ≤ 281474976710656 := by
                  have h8 : ((b * c0 : Nat) : Int) ≤ 281474976710656 := by omega
                  rw [e4, ← Int.natCast_mul]; exact h8
                have hrun := run_make (P := P) w ty e ie z' hu i1 i2 kl kc l0 c0 (by omega) (by omega) h9 (by omega)
                simp only [Int.toNat_natCast] at hrun
                have hm : l0 * z.cells.length ≤ c0 * ie.size := by rw [e2, hn]; exact Nat.mul_le_mul_right _ hle
                obtain ⟨vs, v1, v2⟩ := zeros_ok (n := l0) (m := c0 * ie.size) hzc hm
                have hsz : (madeCells z'.cells (c0 * ie.size)).size = c0 * ie.size := size_madeCells _ _
                refine .inl ⟨_, _, _, by simp only [execOp, ho, hl', hc', Sem.run_bind, hrun, Result.andThen_ok]; rfl, Step.alloc h v1 (madeCells z'.cells (c0 * ie.size)) e v2 (by rw [replic_len, hsz]; exact hm), ?_⟩
                refine .sl (base := 0) (Env.add_self _ _ _ _ _) hle (fun e => (Nat.eq_of_beq_eq_true e).symm) (fun _ => ⟨rfl, ?_⟩) (by simp)
                simp only [Env.add, if_true, size_madeCells, e2]; omega
              · rw [cond_of_false hq2]; trivial
            · trivial
          · rw [cond_of_false hq]; trivial
end
end Go.Am
end
