/- Lists in a store: the plain law. -/
import Derived.Test.YtlibahklbbachaaGreatDoorFix
section
set_option autoImplicit false
set_option maxRecDepth 100000
namespace Go.Am.Sto
open Go Go.Am Go.Proofs

def stt (L U : Int) (rows : List Ob) : Hid := ⟨0, [L, U], rows, []⟩
theorem mkOf_ok {L U : Int} {rows : List Ob} {k : Int} {sl : List V2} (hok : okAll rows.length sl = true) (hU : (rows.length : Int) ≤ U) (hf : U + 1 + sl.length ≤ L) (hL : L ≤ 1048576) :
    mkOf (stt L U rows) k sl = (((7, .ofNat rows.length), 0), stt L (U + 1 + sl.length) (rows ++ [(k, sl)])) := by
  have hfit : Fit L U rows.length := ⟨by omega, by omega, hL, hU⟩
  have hm : sl.length ≤ 1073741824 := by omega
  have hfu : full L U sl.length = false := by rw [full_iff hfit hm, decide_eq_true (by omega)]; rfl
  unfold mkOf stt
  simp only
  rw [hok, hfu, pay_eq hfit hm]

/-- a list that ends -/
def IsL (rows : List Ob) : List V2 → V2 → Prop
  | [], v => v = (0, 0)
  | x :: l, v => ∃ (i : Nat) (w : V2), v = (7, .ofNat i) ∧ rows[i]? = some (1, [x, w]) ∧ IsL rows l w
theorem get_more {rows r : List Ob} {i : Nat} {o : Ob} (h : rows[i]? = some o) : (rows ++ r)[i]? = some o := by
  rw [List.getElem?_append_left]
  · exact h
  · exact (List.getElem?_eq_some_iff.1 h).1
theorem IsL.mono {rows : List Ob} (r : List Ob) : ∀ {l : List V2} {v : V2}, IsL rows l v → IsL (rows ++ r) l v
  | [], _, h => h
  | _ :: _, _, ⟨i, w, h1, h2, h3⟩ => ⟨i, w, h1, get_more h2, IsL.mono r h3⟩
theorem snd_obj {n i : Nat} (h : i < n) : sndB n 7 (.ofNat i) = true := by
  show byB (leI 0 (.ofNat i)) (!leI (.ofNat n) (.ofNat i)) false = true
  rw [leI_t (show (0 : Int) ≤ Int.ofNat i from Int.natCast_nonneg i), leI_f (show Int.ofNat i < Int.ofNat n by simp; omega)]; rfl
theorem IsL.snd {rows : List Ob} : ∀ {l : List V2} {v : V2}, IsL rows l v → sndB rows.length v.1 v.2 = true
  | [], v, h => by rw [show v = (0, 0) from h]; rfl
  | _ :: _, _, ⟨i, w, h1, h2, _⟩ => by rw [h1]; exact snd_obj (List.getElem?_eq_some_iff.1 h2).1
theorem objAt_at (rows : List Ob) (i : Nat) : objAt rows 7 (.ofNat i) = rows[i]? := rfl
theorem pair_kind {rows : List Ob} {i : Nat} {x w : V2} (h : rows[i]? = some (1, [x, w])) : kindOf rows 7 (.ofNat i) = 1 := by unfold kindOf; rw [objAt_at, h]
theorem pair_len {rows : List Ob} {i : Nat} {x w : V2} (h : rows[i]? = some (1, [x, w])) : lenOf rows 7 (.ofNat i) = 2 := by unfold lenOf; rw [objAt_at, h]; rfl
theorem pair_0 {rows : List Ob} {i : Nat} {x w : V2} (h : rows[i]? = some (1, [x, w])) : getOf rows 7 (.ofNat i) 0 = (x, 0) := by
  show getOf rows 7 (.ofNat i) (.ofNat 0) = _
  unfold getOf; rw [objAt_at, h]; rfl
theorem pair_1 {rows : List Ob} {i : Nat} {x w : V2} (h : rows[i]? = some (1, [x, w])) : getOf rows 7 (.ofNat i) 1 = (w, 0) := by
  show getOf rows 7 (.ofNat i) (.ofNat 1) = _
  unfold getOf; rw [objAt_at, h]; rfl

theorem IsL.walk {rows : List Ob} : ∀ (l : List V2) (f : Nat) (room : Int) (v : V2), IsL rows l v → l.length < f → (l.length : Int) ≤ room → room ≤ 1048576 → Sto.walk rows f room v = some (l, (0, 0))
  | [], f + 1, room, v, h, _, _, _ => by
    rw [show v = (0, 0) from h]; rfl
  | x :: l, f + 1, room, v, ⟨i, w, h1, h2, h3⟩, hf, hr, hm => by
    subst h1
    simp only [List.length_cons] at hf hr
    have ih := IsL.walk l f (IntKind.i64.wrap (room - 1)) w h3 (by omega) (by rw [wrap64 (by omega) (by omega)]; omega) (by rw [wrap64 (by omega) (by omega)]; omega)
    simp only [Sto.walk, pair_kind h2, pair_0 h2, pair_1 h2, ih]
    rw [leI_t (show 0 ≤ room by omega)]
    rfl
theorem same_self (x : V2) : sameV x x = true := by unfold sameV same2; rw [eqI_self, eqI_self]; rfl
theorem IsL.eqv {rows : List Ob} : ∀ (l : List V2) (f : Nat) (k : Int) (x y : V2), IsL rows l x → IsL rows l y → l.length < f → 2 * (l.length : Int) < k → k ≤ 1048576 → (eqvO rows f k x y).isSome = true
  | [], f + 1, k, x, y, hx, hy, _, hk, _ => by
    rw [show x = (0, 0) from hx, show y = (0, 0) from hy]
    simp only [eqvO]
    rw [leI_f (show (0 : Int) < k by simpa using hk)]
    rfl
  | z :: l, f + 1, k, x, y, ⟨i, w, h1, h2, h3⟩, ⟨j, u, g1, g2, g3⟩, hf, hk, hm => by
    subst h1 g1
    simp only [List.length_cons] at hf hk
    have e1 : kM k = k - 1 := wrap64 (by omega) (by omega)
    have e2 : kM (k - 1) = k - 1 - 1 := wrap64 (by omega) (by omega)
    simp only [eqvO, e1, e2]
    rw [leI_f (show (0 : Int) < k by omega)]
    cases hs : sameV (7, .ofNat i) (7, .ofNat j) with
    | true => rfl
    | false =>
      have ih := IsL.eqv l f (k - 1 - 1) w u h3 g3 (by omega) (by omega) (by omega)
      simp only [kd', ln', pair_kind h2, pair_len h2, pair_kind g2, pair_len g2, pair_0 h2, pair_0 g2, pair_1 h2, pair_1 g2, same_self]
      rw [leI_f (show (0 : Int) < k - 1 by omega)]
      exact ih

/-- small numbers -/
def nums (l : List V2) : Prop := ∀ x ∈ l, x.1 = 4
theorem snd_num (n : Nat) {x : V2} (h : x.1 = 4) : sndB n x.1 x.2 = true := by rw [h]; rfl
theorem okAll_nums (n : Nat) {l : List V2} (h : nums l) : okAll n l = true := List.all_eq_true.2 fun x hx => snd_num n (h x hx)
theorem IsL.down {L : Int} (hL : L ≤ 1048576) (l le : List V2) (hl : nums l) : ∀ (j : Nat) (U : Int) (rows : List Ob) (e : V2), j ≤ l.length → IsL rows le e → (rows.length : Int) ≤ U → U + 3 * j ≤ L →
    ∃ v r, downOf l j (stt L U rows) e = ((v, 0), stt L (U + 3 * j) (rows ++ r)) ∧ r.length = j ∧ IsL (rows ++ r) (l.take j ++ le) v
  | 0, U, rows, e, _, he, _, _ => ⟨e, [], by simp [downOf], rfl, by simpa using he⟩
  | j + 1, U, rows, e, hj, he, hU, hf => by
    have hlt : j < l.length := by omega
    have hx := hl _ (List.getElem_mem hlt)
    have hok : okAll rows.length [l[j], e] = true := by
      simp only [okAll, List.all_cons, List.all_nil, snd_num _ hx, he.snd]; rfl
    have hmk := mkOf_ok (L := L) (U := U) (rows := rows) (k := 1) hok hU (by simp; omega) hL
    simp only [downOf, List.getElem?_eq_getElem hlt, hmk]
    have he' : IsL (rows ++ [(1, [l[j], e])]) (l[j] :: le) (7, .ofNat rows.length) := ⟨rows.length, e, rfl, by simp, he.mono _⟩
    obtain ⟨v, r, h1, h2, h3⟩ := IsL.down hL l (l[j] :: le) hl j (U + 1 + 2) (rows ++ [(1, [l[j], e])]) _ (by omega) he' (by simp; omega) (by omega)
    refine ⟨v, (1, [l[j], e]) :: r, ?_, by simp [h2], ?_⟩
    · show byB (!eqI 0 0) _ (downOf l j (stt L (U + 1 + 2) (rows ++ [(1, [l[j], e])])) _) = _
      rw [h1, eqI_self]
      show ((v, (0 : Int)), _) = _
      rw [List.append_assoc, show U + 1 + 2 + 3 * (j : Int) = U + 3 * ((j + 1 : Nat) : Int) by push_cast; omega]
      rfl
    · rw [List.append_assoc] at h3
      rw [List.take_succ_eq_append_getElem hlt, List.append_assoc]
      exact h3
end Go.Am.Sto
end
section
set_option autoImplicit false
set_option maxRecDepth 100000
namespace Go.Am.Sto
open Go Go.Am Go.Proofs

/-- a store, and what is used of it -/
def Ok (L : Int) (d : Hid) (u : Int) : Prop := d = stt L u d.rows ∧ (d.rows.length : Int) ≤ u
def Grow (d d' : Hid) : Prop := ∃ r, d'.rows = d.rows ++ r
theorem Grow.keep {d d' : Hid} (h : Grow d d') {l : List V2} {v : V2} (hv : IsL d.rows l v) : IsL d'.rows l v := by
  obtain ⟨r, hr⟩ := h; rw [hr]; exact hv.mono r
theorem Grow.at {d d' : Hid} (h : Grow d d') {i : Nat} {o : Ob} (hv : d.rows[i]? = some o) : d'.rows[i]? = some o := by
  obtain ⟨r, hr⟩ := h; rw [hr]; exact get_more hv
theorem Grow.trans {a b c : Hid} (h : Grow a b) (g : Grow b c) : Grow a c := by
  obtain ⟨r, hr⟩ := h; obtain ⟨q, hq⟩ := g
  exact ⟨r ++ q, by rw [hq, hr, List.append_assoc]⟩
theorem Ok.new (L : Int) : Ok L (newHid L) 0 := ⟨rfl, Int.le_refl _⟩
section
variable {L u : Int} {d : Hid}
theorem down_ok (hL : L ≤ 1048576) (h : Ok L d u) {l le : List V2} {e : V2} (hl : nums l) (he : IsL d.rows le e) (hf : u + 3 * (l.length : Int) ≤ L) :
    ∃ v d', downOf l l.length d e = ((v, 0), d') ∧ Ok L d' (u + 3 * (l.length : Int)) ∧ Grow d d' ∧ IsL d'.rows (l ++ le) v := by
  obtain ⟨h1, h2⟩ := h
  obtain ⟨v, r, k1, k2, k3⟩ := IsL.down hL l le hl l.length u d.rows e (Nat.le_refl _) he h2 hf
  rw [← h1] at k1
  rw [List.take_length] at k3
  exact ⟨v, _, k1, ⟨rfl, by show ((d.rows ++ r).length : Int) ≤ _; simp [k2]; omega⟩, ⟨r, rfl⟩, k3⟩
theorem elems_ok (h : Ok L d u) {l : List V2} {v : V2} (hv : IsL d.rows l v) (h1 : l.length < 1000) (h2 : (l.length : Int) ≤ u) (h3 : u ≤ 1048576) :
    elemsO d v.1 v.2 = some (l, (0, 0)) ∧ elems d v.1 v.2 = (l, (0, 0)) := by
  have : elemsO d v.1 v.2 = some (l, (0, 0)) := by
    have hu : usedOf d = u := by rw [h.1]; rfl
    unfold elemsO
    rw [hu]
    exact hv.walk l 1000 u v h1 h2 h3
  exact ⟨this, by unfold elems; rw [this]⟩
theorem okp_1 {v : V2} (h : sndB d.rows.length v.1 v.2 = true) : okp d (v1 v.1 v.2) 1 = true := by
  show (true && (true && okAll d.rows.length [(v.1, v.2)])) = true
  simp only [okAll, List.all_cons, List.all_nil, h]; rfl
theorem okp_2 {v w : V2} (h : sndB d.rows.length v.1 v.2 = true) (g : sndB d.rows.length w.1 w.2 = true) : okp d (v2 v.1 v.2 w.1 w.2) 2 = true := by
  show (true && (true && okAll d.rows.length [(v.1, v.2), (w.1, w.2)])) = true
  simp only [okAll, List.all_cons, List.all_nil, h, g]; rfl

theorem op19 (hL : L ≤ 1048576) (h : Ok L d u) {l : List V2} (hl : nums l) (hn : l.length ≤ 900) (hf : u + 3 * (l.length : Int) ≤ L) (tt nl : Bool) :
    ∃ v d', P10 d [.hptr 0, .int .i64 19, .lst (cellsA l) l.length tt nl] = some (true, getV (v, 0), d') ∧ Ok L d' (u + 3 * (l.length : Int)) ∧ Grow d d' ∧ IsL d'.rows l v := by
  obtain ⟨v, d', k1, k2, k3, k4⟩ := down_ok hL h hl (le := []) (e := (0, 0)) rfl hf
  rw [List.append_nil] at k4
  refine ⟨v, d', ?_, k2, k3, k4⟩
  show some (okp d (cellsA l) l.length && eqI (lsD d (cellsA l) l.length 0 0).1.2 0, getV (lsD d (cellsA l) l.length 0 0).1, (lsD d (cellsA l) l.length 0 0).2) = _
  have : lsD d (cellsA l) l.length 0 0 = ((v, 0), d') := by unfold lsD; rw [ofCells_cells]; exact k1
  have hok : okp d (cellsA l) l.length = true := by
    show (isCells (cellsA l) l.length && (Nat.ble l.length 900 && okAll d.rows.length (ofCells (cellsA l)))) = true
    rw [isCells_cells, ofCells_cells, okAll_nums _ hl, Nat.ble_eq_true_of_le hn]; rfl
  rw [this, hok]; rfl
theorem op22 (hL : L ≤ 1048576) (h : Ok L d u) {l m : List V2} {v w : V2} (hl : nums l) (hv : IsL d.rows l v) (hw : IsL d.rows m w) (hn : l.length ≤ 900) (hu : (l.length : Int) ≤ u) (hf : u + 3 * (l.length : Int) ≤ L) (tt : Bool) :
    ∃ x d', P10 d [.hptr 0, .int .i64 22, .lst (v2 v.1 v.2 w.1 w.2) 2 tt false] = some (true, getV (x, 0), d') ∧ Ok L d' (u + 3 * (l.length : Int)) ∧ Grow d d' ∧ IsL d'.rows (l ++ m) x := by
  obtain ⟨x, d', k1, k2, k3, k4⟩ := down_ok hL h hl hw hf
  obtain ⟨e1, e2⟩ := elems_ok h hv (by omega) hu (by omega)
  refine ⟨x, d', ?_, k2, k3, k4⟩
  show some (okp d (v2 v.1 v.2 w.1 w.2) 2 && ((elemsO d v.1 v.2).isSome && (eqI (elems d v.1 v.2).2.1 0 && (Nat.ble (elems d v.1 v.2).1.length 900 && eqI (apD d v.1 v.2 w.1 w.2).1.2 0))), getV (apD d v.1 v.2 w.1 w.2).1, (apD d v.1 v.2 w.1 w.2).2) = _
  have : apD d v.1 v.2 w.1 w.2 = ((x, 0), d') := by unfold apD; rw [e2]; exact k1
  rw [this, okp_2 hv.snd hw.snd, e1, e2, Nat.ble_eq_true_of_le hn]; rfl
theorem nums_rev {l : List V2} (hl : nums l) : nums l.reverse := fun x hx => hl x (by simpa using hx)
theorem nums_app {l m : List V2} (hl : nums l) (hm : nums m) : nums (l ++ m) := fun x hx => by
  rcases List.mem_append.1 hx with h | h
  · exact hl x h
  · exact hm x h
theorem op57 (hL : L ≤ 1048576) (h : Ok L d u) {l : List V2} {v : V2} (hl : nums l) (hv : IsL d.rows l v) (hn : l.length ≤ 900) (hu : (l.length : Int) ≤ u) (hf : u + 3 * (l.length : Int) ≤ L) (tt : Bool) :
    ∃ x d', P10 d [.hptr 0, .int .i64 57, .lst (v1 v.1 v.2) 1 tt false] = some (true, getV (x, 0), d') ∧ Ok L d' (u + 3 * (l.length : Int)) ∧ Grow d d' ∧ IsL d'.rows l.reverse x := by
  have hr : l.reverse.length = l.length := List.length_reverse
  obtain ⟨x, d', k1, k2, k3, k4⟩ := down_ok hL h (nums_rev hl) (le := []) (e := (0, 0)) rfl (by rw [hr]; exact hf)
  rw [List.append_nil] at k4
  rw [hr] at k1 k2
  obtain ⟨e1, e2⟩ := elems_ok h hv (by omega) hu (by omega)
  refine ⟨x, d', ?_, k2, k3, k4⟩
  show some (okp d (v1 v.1 v.2) 1 && ((elemsO d v.1 v.2).isSome && (eqI (elems d v.1 v.2).2.1 0 && (Nat.ble (elems d v.1 v.2).1.length 900 && eqI (revD d v.1 v.2).1.2 0))), getV (revD d v.1 v.2).1, (revD d v.1 v.2).2) = _
  have : revD d v.1 v.2 = ((x, 0), d') := by unfold revD; rw [e2]; exact k1
  rw [this, okp_1 hv.snd, e1, e2, Nat.ble_eq_true_of_le hn]; rfl
theorem op21 (h : Ok L d u) {l : List V2} {v : V2} (hv : IsL d.rows l v) (hn : l.length ≤ 900) (hu : (l.length : Int) ≤ u) (hu2 : u ≤ 1048576) (tt : Bool) :
    P10 d [.hptr 0, .int .i64 21, .lst (v1 v.1 v.2) 1 tt false] = some (true, getV ((4, .ofNat l.length), 0), d) := by
  obtain ⟨e1, e2⟩ := elems_ok h hv (by omega) hu hu2
  show some (okp d (v1 v.1 v.2) 1 && ((elemsO d v.1 v.2).isSome && eqI (elems d v.1 v.2).2.1 0), gA 4 (.ofNat (elems d v.1 v.2).1.length) 0, d) = _
  rw [okp_1 hv.snd, e1, e2]; rfl
theorem op20 (h : Ok L d u) {l : List V2} {v : V2} (hv : IsL d.rows l v) (hn : l.length ≤ 900) (hu : (l.length : Int) ≤ u) (hu2 : u ≤ 1048576) (tt : Bool) :
    P10 d [.hptr 0, .int .i64 20, .lst (v1 v.1 v.2) 1 tt false] = some (true, getV ((1, 0), 0), d) := by
  obtain ⟨e1, e2⟩ := elems_ok h hv (by omega) hu hu2
  show some (okp d (v1 v.1 v.2) 1 && ((elemsO d v.1 v.2).isSome && eqI (elems d v.1 v.2).2.1 0), gA 1 0 0, d) = _
  rw [okp_1 hv.snd, e1, e2]; rfl
theorem op33 {l : List V2} {v w : V2} (hv : IsL d.rows l v) (hw : IsL d.rows l w) (hn : l.length < 400) (tt : Bool) :
    P10 d [.hptr 0, .int .i64 33, .lst (v2 v.1 v.2 w.1 w.2) 2 tt false] = some (true, getV ((1, 0), 0), d) := by
  have e := IsL.eqv l 400 100000 v w hv hw hn (by omega) (by omega)
  show some (okp d (v2 v.1 v.2 w.1 w.2) 2 && (eqvO d.rows 400 100000 (v.1, v.2) (w.1, w.2)).isSome, gA 1 0 0, d) = _
  rw [okp_2 hv.snd hw.snd, show (eqvO d.rows 400 100000 (v.1, v.2) (w.1, w.2)).isSome = true from e]; rfl
theorem op29 (hL : L ≤ 1048576) (h : Ok L d u) {l : List V2} {v : V2} (hl : nums l) (hv : IsL d.rows l v) (hn : l.length ≤ 900) (hu : (l.length : Int) ≤ u) (hf : u + 1 + (l.length : Int) ≤ L) (tt : Bool) :
    ∃ (i : Nat) (d' : Hid), P10 d [.hptr 0, .int .i64 29, .lst (v1 v.1 v.2) 1 tt false] = some (true, getV ((7, .ofNat i), 0), d') ∧ Ok L d' (u + 1 + (l.length : Int)) ∧ Grow d d' ∧ d'.rows[i]? = some (2, l) := by
  obtain ⟨e1, e2⟩ := elems_ok h hv (by omega) hu (by omega)
  have hmk : mkOf d 2 l = (((7, .ofNat d.rows.length), 0), stt L (u + 1 + l.length) (d.rows ++ [(2, l)])) := by
    have := mkOf_ok (L := L) (U := u) (rows := d.rows) (k := 2) (okAll_nums _ hl) h.2 hf hL
    rwa [← h.1] at this
  refine ⟨d.rows.length, stt L (u + 1 + l.length) (d.rows ++ [(2, l)]), ?_, ⟨rfl, ?_⟩, ⟨_, rfl⟩, by show (d.rows ++ [(2, l)])[_]? = _; simp⟩
  · show some (okp d (v1 v.1 v.2) 1 && ((elemsO d v.1 v.2).isSome && (eqI (elems d v.1 v.2).2.1 0 && (Nat.ble (elems d v.1 v.2).1.length 900 && (okAll d.rows.length (elems d v.1 v.2).1 && eqI (vcD d v.1 v.2).1.2 0)))), getV (vcD d v.1 v.2).1, (vcD d v.1 v.2).2) = _
    have : vcD d v.1 v.2 = (((7, .ofNat d.rows.length), 0), stt L (u + 1 + l.length) (d.rows ++ [(2, l)])) := by unfold vcD; rw [e2]; exact hmk
    rw [this, okp_1 hv.snd, e1, e2, okAll_nums _ hl, Nat.ble_eq_true_of_le hn]; rfl
  · have := h.2
    show ((d.rows ++ [(2, l)]).length : Int) ≤ _
    simp; omega
theorem op30 (hL : L ≤ 1048576) (h : Ok L d u) {l : List V2} {i : Nat} (hl : nums l) (hv : d.rows[i]? = some (2, l)) (hn : l.length ≤ 900) (hf : u + 3 * (l.length : Int) ≤ L) (tt : Bool) :
    ∃ x d', P10 d [.hptr 0, .int .i64 30, .lst (v1 7 (.ofNat i)) 1 tt false] = some (true, getV (x, 0), d') ∧ Ok L d' (u + 3 * (l.length : Int)) ∧ Grow d d' ∧ IsL d'.rows l x := by
  obtain ⟨x, d', k1, k2, k3, k4⟩ := down_ok hL h hl (le := []) (e := (0, 0)) rfl hf
  rw [List.append_nil] at k4
  have hs : slotsO d 7 (.ofNat i) = l := by unfold slotsO; rw [objAt_at, hv]
  have hk : kindOf d.rows 7 (.ofNat i) = 2 := by unfold kindOf; rw [objAt_at, hv]
  refine ⟨x, d', ?_, k2, k3, k4⟩
  show some (okp d (v1 7 (.ofNat i)) 1 && (eqI (kindOf d.rows 7 (.ofNat i)) 2 && (Nat.ble (slotsO d 7 (.ofNat i)).length 900 && eqI (vlD d 7 (.ofNat i)).1.2 0)), getV (vlD d 7 (.ofNat i)).1, (vlD d 7 (.ofNat i)).2) = _
  have : vlD d 7 (.ofNat i) = ((x, 0), d') := by unfold vlD; rw [hs]; exact k1
  rw [this, okp_1 (v := (7, .ofNat i)) (snd_obj (List.getElem?_eq_some_iff.1 hv).1), hk, hs, Nat.ble_eq_true_of_le hn]; rfl
end

/-! ## Called by their names -/
/-- what run gives -/
def Runs (d : Hid) (ar : List AV) (v : V2) (d' : Hid) : Prop := c14 d ar = true ∧ t14' d ar = v.1 ∧ n14' d ar = v.2 ∧ D14' d ar = d'
theorem runs_of {d d' : Hid} {nm : List Nat} {op : Int} {cs : List AV} {k : Nat} {tt nl : Bool} {v : V2} (hn : numOf nm = op) (h0 : leI 0 op = true) (hp : AV.plains cs = true)
    (h : P10 d [.hptr 0, .int .i64 op, .lst cs k tt nl] = some (true, getV (v, 0), d')) : Runs d [.hptr 0, .str nm, .lst cs k tt nl] v d' := by
  subst hn
  have e : valO d [.hptr 0, .int .i64 (numOf nm), .lst cs k tt nl] = some (v, d') := by unfold valO; rw [h]; rfl
  refine ⟨?_, ?_, ?_, ?_⟩
  · show (leI 0 (numOf nm) && (AV.plains cs && valC d [.hptr 0, .int .i64 (numOf nm), .lst cs k tt nl])) = true
    rw [h0, hp, valC, e]; rfl
  · show valT d [.hptr 0, .int .i64 (numOf nm), .lst cs k tt nl] = _
    rw [valT, e]
  · show valN d [.hptr 0, .int .i64 (numOf nm), .lst cs k tt nl] = _
    rw [valN, e]
  · show valD d [.hptr 0, .int .i64 (numOf nm), .lst cs k tt nl] = _
    rw [valD, e]
/-- what fixes is handed, as run is -/
def p13 : List AV → List AV
  | [.hptr 0, .lst zs _ _ _] => l13 zs
  | _ => []
def c13 (d : Hid) (ar : List AV) : Bool := match ar with
  | [.hptr 0, .lst zs m _ _] => isInts zs m && (Nat.ble m 900 && c14 d (l13 zs))
  | _ => false
def t13 (d : Hid) (ar : List AV) : Int := t14' d (p13 ar)
def n13 (d : Hid) (ar : List AV) : Int := n14' d (p13 ar)
def D13' (d : Hid) (ar : List AV) : Hid := D14' d (p13 ar)
theorem k13v : MethOk Tryz.prog G0 13 (valG c13 t13 n13 D13') := meth_mono k13 fun d ar x d' h => by
  unfold valG at h
  simp only [Option.some.injEq, Prod.mk.injEq] at h
  obtain ⟨h1, rfl, rfl⟩ := h
  unfold c13 at h1
  split at h1
  · simp only [F13, h1]; rfl
  · cases h1
theorem isInts_of : ∀ l : List Int, isInts (intsA l) l.length = true
  | [] => rfl
  | _ :: l => isInts_of l
theorem ofInts_of : ∀ l : List Int, ofInts (intsA l) = l
  | [] => rfl
  | z :: l => by simp only [intsA, ofInts, ofInts_of l]
theorem nums_fx (l : List Int) : nums (fx l) := fun x hx => by
  obtain ⟨z, _, rfl⟩ := List.mem_map.1 hx; rfl
def Fixs (d : Hid) (ar : List AV) (v : V2) (d' : Hid) : Prop := c13 d ar = true ∧ t13 d ar = v.1 ∧ n13 d ar = v.2 ∧ D13' d ar = d'
theorem fixs_ok {L u : Int} {d : Hid} (hL : L ≤ 1048576) (h : Ok L d u) (l : List Int) (hn : l.length ≤ 900) (hf : u + 3 * (l.length : Int) ≤ L) (tt nl : Bool) :
    ∃ v d', Fixs d [.hptr 0, .lst (intsA l) l.length tt nl] v d' ∧ Ok L d' (u + 3 * (l.length : Int)) ∧ Grow d d' ∧ IsL d'.rows (fx l) v := by
  have hlen : (fx l).length = l.length := List.length_map _
  have main : ∀ t2 n2, ∃ v d', Runs d (lArgs (.lst (cellsA (fx l)) (fx l).length t2 n2)) v d' ∧ Ok L d' (u + 3 * (l.length : Int)) ∧ Grow d d' ∧ IsL d'.rows (fx l) v := fun t2 n2 => by
    obtain ⟨v, d', k1, k2, k3, k4⟩ := op19 hL h (nums_fx l) (by omega) (by rw [hlen]; exact hf) t2 n2
    rw [hlen] at k2
    exact ⟨v, d', runs_of (op := 19) rfl rfl (cellsA_plains _) k1, k2, k3, k4⟩
  have main : ∃ v d', Runs d (lArgs (fixA l)) v d' ∧ Ok L d' (u + 3 * (l.length : Int)) ∧ Grow d d' ∧ IsL d'.rows (fx l) v := by
    cases l with
    | nil => exact main true true
    | cons z l => rw [show fixA (z :: l) = .lst (cellsA (fx (z :: l))) (fx (z :: l)).length false false by rw [hlen]; rfl]; exact main false false
  obtain ⟨v, d', ⟨m1, m2, m3, m4⟩, k⟩ := main
  have hl : l13 (intsA l) = lArgs (fixA l) := by unfold l13; rw [ofInts_of]
  refine ⟨v, d', ⟨?_, ?_, ?_, ?_⟩, k⟩
  · show (isInts (intsA l) l.length && (Nat.ble l.length 900 && c14 d (l13 (intsA l)))) = true
    rw [isInts_of, hl, m1, Nat.ble_eq_true_of_le hn]; rfl
  · show t14' d (l13 (intsA l)) = _
    rw [hl, m2]
  · show n14' d (l13 (intsA l)) = _
    rw [hl, m3]
  · show D14' d (l13 (intsA l)) = _
    rw [hl, m4]
end Go.Am.Sto
end
