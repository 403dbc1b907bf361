/- Vectors, pairs, boxes: the law. -/
import Derived.Test.YtlibahklbbachaaGreatDoorVec2
import Derived.Test.YtlibahklbbachaaGreatDoorLaw
section
set_option autoImplicit false
set_option maxRecDepth 100000
namespace Go.Am.Sto
open Go Go.Am Go.Proofs

theorem objAt_7 (rows : List Ob) (i : Nat) : objAt rows 7 (.ofNat i) = rows[i]? := rfl
theorem kind_of {rows : List Ob} {i : Nat} {o : Ob} (h : rows[i]? = some o) : kindOf rows 7 (.ofNat i) = o.1 := by unfold kindOf; rw [objAt_7, h]
theorem len_of {rows : List Ob} {i : Nat} {o : Ob} (h : rows[i]? = some o) : lenOf rows 7 (.ofNat i) = .ofNat o.2.length := by unfold lenOf; rw [objAt_7, h]
theorem get_of {rows : List Ob} {i j : Nat} {o : Ob} {p : V2} (h : rows[i]? = some o) (hj : o.2[j]? = some p) : getOf rows 7 (.ofNat i) (.ofNat j) = (p, 0) := by unfold getOf; simp only [objAt_7, h, hj]
theorem getO_of {d : Hid} {i j : Nat} {o : Ob} {p : V2} (h : d.rows[i]? = some o) (hj : o.2[j]? = some p) : getO d 7 (.ofNat i) (.ofNat j) = (p, 0) := get_of h hj
theorem snd4 (n : Nat) (z : Int) : sndB n 4 z = true := rfl
theorem okAll_1 {n : Nat} {a b : Int} (h : sndB n a b = true) : okAll n [(a, b)] = true := by simp only [okAll, List.all_cons, List.all_nil, h]; rfl
theorem small_of {z : Int} (h0 : -1000000000000000000 < z) (h1 : z < 1000000000000000000) : small z = true := by
  unfold small
  rw [leI_t (by omega), leI_t (by omega)]; rfl
theorem in_t {d : Hid} {i j : Nat} {o : Ob} (h : d.rows[i]? = some o) (hj : j < o.2.length) : inL d (.ofNat i) (.ofNat j) = true := by
  unfold inL
  rw [len_of h, leI_t (show (0 : Int) ≤ Int.ofNat j from Int.natCast_nonneg j), leI_f (show Int.ofNat j < Int.ofNat o.2.length by simp only [Int.ofNat_eq_natCast]; omega)]; rfl
theorem in_f {d : Hid} {i : Nat} {o : Ob} {z : Int} (h : d.rows[i]? = some o) (hz : z < 0 ∨ (o.2.length : Int) ≤ z) : inL d (.ofNat i) z = false := by
  unfold inL
  rw [len_of h]
  rcases hz with hz | hz
  · rw [leI_f hz]; rfl
  · rw [leI_t (show Int.ofNat o.2.length ≤ z from hz)]
    cases leI 0 z <;> rfl
/-! ## vector-ref, vector-set! -/
section
variable {d : Hid} {i : Nat} {o : Ob}
theorem okp_7 (h : d.rows[i]? = some o) {a b : Int} (hs : sndB d.rows.length a b = true) : okp d (v2 7 (.ofNat i) a b) 2 = true := okp_2 (v := (7, .ofNat i)) (w := (a, b)) (snd_obj (List.getElem?_eq_some_iff.1 h).1) hs
theorem okp_73 (h : d.rows[i]? = some o) {a b c e : Int} (hs : sndB d.rows.length a b = true) (ht : sndB d.rows.length c e = true) : okp d (v3 7 (.ofNat i) a b c e) 3 = true := by
  show (true && (true && okAll d.rows.length [(7, .ofNat i), (a, b), (c, e)])) = true
  simp only [okAll, List.all_cons, List.all_nil, hs, ht, snd_obj (List.getElem?_eq_some_iff.1 h).1]; rfl
theorem ref_in (h : d.rows[i]? = some o) (hk : o.1 = 2) {j : Nat} {p : V2} (hj : o.2[j]? = some p) (hb : j < 1000) (tt : Bool) :
    P10v d [.hptr 0, .int .i64 25, .lst (v2 7 (.ofNat i) 4 (.ofNat j)) 2 tt false] = some (true, getV (p, 0), d) := by
  show some (okp d (v2 7 (.ofNat i) 4 (.ofNat j)) 2 && (eqI (kindOf d.rows 7 (.ofNat i)) 2 && (small (.ofNat j) && byB (inL d (.ofNat i) (.ofNat j)) (eqI (getO d 7 (.ofNat i) (.ofNat j)).2 0) true)), byB (inL d (.ofNat i) (.ofNat j)) (getV (getO d 7 (.ofNat i) (.ofNat j))) (gA 0 0 12), d) = _
  rw [okp_7 h (snd4 _ _), kind_of h, hk, small_of (by simp only [Int.ofNat_eq_natCast]; omega) (by simp only [Int.ofNat_eq_natCast]; omega), in_t h (List.getElem?_eq_some_iff.1 hj).1, getO_of h hj]; rfl
theorem ref_out (h : d.rows[i]? = some o) (hk : o.1 = 2) {z : Int} (hz : z < 0 ∨ (o.2.length : Int) ≤ z) (hs : small z = true) (tt : Bool) :
    P10v d [.hptr 0, .int .i64 25, .lst (v2 7 (.ofNat i) 4 z) 2 tt false] = some (true, getV ((0, 0), 12), d) := by
  show some (okp d (v2 7 (.ofNat i) 4 z) 2 && (eqI (kindOf d.rows 7 (.ofNat i)) 2 && (small z && byB (inL d (.ofNat i) z) (eqI (getO d 7 (.ofNat i) z).2 0) true)), byB (inL d (.ofNat i) z) (getV (getO d 7 (.ofNat i) z)) (gA 0 0 12), d) = _
  rw [okp_7 h (snd4 _ _), kind_of h, hk, hs, in_f h hz]; rfl
theorem setOk_t (h : d.rows[i]? = some o) {j : Nat} (hj : j < o.2.length) {x : V2} (hx : sndB d.rows.length x.1 x.2 = true) : setOk d i j x = true := by
  unfold setOk
  rw [h]
  simp only [hx]
  rw [show Nat.blt j o.2.length = true by simpa using hj]; rfl
theorem vset_in (h : d.rows[i]? = some o) (hk : o.1 = 2) {j : Nat} (hj : j < o.2.length) (hb : j < 1000) (x : Int) (tt : Bool) :
    P10v d [.hptr 0, .int .i64 26, .lst (v3 7 (.ofNat i) 4 (.ofNat j) 4 x) 3 tt false] = some (true, getV ((3, 0), 0), setOf d i j (4, x)) := by
  show some (okp d (v3 7 (.ofNat i) 4 (.ofNat j) 4 x) 3 && (eqI (kindOf d.rows 7 (.ofNat i)) 2 && (small (.ofNat j) && byB (inL d (.ofNat i) (.ofNat j)) (setOk d i j (4, x)) true)), byB (inL d (.ofNat i) (.ofNat j)) (gA 3 0 0) (gA 0 0 12), byB (inL d (.ofNat i) (.ofNat j)) (setOf d i j (4, x)) d) = _
  rw [okp_73 h (snd4 _ _) (snd4 _ _), kind_of h, hk, small_of (by simp only [Int.ofNat_eq_natCast]; omega) (by simp only [Int.ofNat_eq_natCast]; omega), in_t h hj, setOk_t h hj (snd4 _ _)]; rfl
theorem vset_out (h : d.rows[i]? = some o) (hk : o.1 = 2) {z : Int} (hz : z < 0 ∨ (o.2.length : Int) ≤ z) (hs : small z = true) (x : Int) (tt : Bool) :
    P10v d [.hptr 0, .int .i64 26, .lst (v3 7 (.ofNat i) 4 z 4 x) 3 tt false] = some (true, getV ((0, 0), 12), d) := by
  show some (okp d (v3 7 (.ofNat i) 4 z 4 x) 3 && (eqI (kindOf d.rows 7 (.ofNat i)) 2 && (small z && byB (inL d (.ofNat i) z) (setOkI d (.ofNat i) z (4, x)) true)), byB (inL d (.ofNat i) z) (gA 3 0 0) (gA 0 0 12), byB (inL d (.ofNat i) z) (setOfI d (.ofNat i) z (4, x)) d) = _
  rw [okp_73 h (snd4 _ _) (snd4 _ _), kind_of h, hk, hs, in_f h hz]; rfl
end
/-! ## boxes and pairs -/
section
variable {L u : Int} {d : Hid}
theorem mk_ok (hL : L ≤ 1048576) (h : Ok L d u) {k : Int} {sl : List V2} (hs : okAll d.rows.length sl = true) (hf : u + 1 + sl.length ≤ L) :
    mkOf d k sl = (((7, .ofNat d.rows.length), 0), stt L (u + 1 + sl.length) (d.rows ++ [(k, sl)])) := by
  have := mkOf_ok (L := L) (U := u) (rows := d.rows) (k := k) hs h.2 hf hL
  rwa [← h.1] at this
theorem op49 (hL : L ≤ 1048576) (h : Ok L d u) (a : Int) (hf : u + 2 ≤ L) (tt : Bool) :
    P10v d [.hptr 0, .int .i64 49, .lst (v1 4 a) 1 tt false] = some (true, getV ((7, .ofNat d.rows.length), 0), stt L (u + 2) (d.rows ++ [(3, [(4, a)])])) := by
  have hm := mk_ok hL h (k := 3) (sl := [(4, a)]) (okAll_1 (snd4 _ _)) (by simp; omega)
  show some (okp d (v1 4 a) 1 && eqI (mkOf d 3 [(4, a)]).1.2 0, getV (mkOf d 3 [(4, a)]).1, (mkOf d 3 [(4, a)]).2) = _
  rw [hm, okp_1 (v := (4, a)) (snd4 _ _)]
  show some (true, _, stt L (u + 1 + ((1 : Nat) : Int)) _) = _
  rw [show u + 1 + ((1 : Nat) : Int) = u + 2 by omega]
theorem op12 (hL : L ≤ 1048576) (h : Ok L d u) (a b : Int) (hf : u + 3 ≤ L) (tt : Bool) :
    P10v d [.hptr 0, .int .i64 12, .lst (v2 4 a 4 b) 2 tt false] = some (true, getV ((7, .ofNat d.rows.length), 0), stt L (u + 3) (d.rows ++ [(1, [(4, a), (4, b)])])) := by
  have hm := mk_ok hL h (k := 1) (sl := [(4, a), (4, b)]) rfl (by simp; omega)
  show some (okp d (v2 4 a 4 b) 2 && eqI (mkOf d 1 [(4, a), (4, b)]).1.2 0, getV (mkOf d 1 [(4, a), (4, b)]).1, (mkOf d 1 [(4, a), (4, b)]).2) = _
  rw [hm, okp_2 (v := (4, a)) (w := (4, b)) (snd4 _ _) (snd4 _ _)]
  show some (true, _, stt L (u + 1 + ((2 : Nat) : Int)) _) = _
  rw [show u + 1 + ((2 : Nat) : Int) = u + 3 by omega]
end
section
variable {d : Hid} {i : Nat} {o : Ob}
theorem op51 (h : d.rows[i]? = some o) (hk : o.1 = 3) (hj : 0 < o.2.length) (x : Int) (tt : Bool) :
    P10v d [.hptr 0, .int .i64 51, .lst (v2 7 (.ofNat i) 4 x) 2 tt false] = some (true, getV ((3, 0), 0), setOf d i 0 (4, x)) := by
  show some (okp d (v2 7 (.ofNat i) 4 x) 2 && (eqI (kindOf d.rows 7 (.ofNat i)) 3 && setOk d i 0 (4, x)), gA 3 0 0, setOf d i 0 (4, x)) = _
  rw [okp_7 h (snd4 _ _), kind_of h, hk, setOk_t h hj (snd4 _ _)]; rfl
theorem op16 (h : d.rows[i]? = some o) (hk : o.1 = 1) (hj : 1 < o.2.length) (x : Int) (tt : Bool) :
    P10v d [.hptr 0, .int .i64 16, .lst (v2 7 (.ofNat i) 4 x) 2 tt false] = some (true, getV ((3, 0), 0), setOf d i 1 (4, x)) := by
  show some (okp d (v2 7 (.ofNat i) 4 x) 2 && (eqI (kindOf d.rows 7 (.ofNat i)) 1 && setOk d i 1 (4, x)), gA 3 0 0, setOf d i 1 (4, x)) = _
  rw [okp_7 h (snd4 _ _), kind_of h, hk, setOk_t h hj (snd4 _ _)]; rfl
theorem op50 (h : d.rows[i]? = some o) (hk : o.1 = 3) {p : V2} (hj : o.2[0]? = some p) (tt : Bool) : P10v d [.hptr 0, .int .i64 50, .lst (v1 7 (.ofNat i)) 1 tt false] = some (true, getV (p, 0), d) := by
  show some (okp d (v1 7 (.ofNat i)) 1 && (eqI (kindOf d.rows 7 (.ofNat i)) 3 && eqI (getO d 7 (.ofNat i) (.ofNat 0)).2 0), getV (getO d 7 (.ofNat i) (.ofNat 0)), d) = _
  rw [okp_1 (v := (7, .ofNat i)) (snd_obj (List.getElem?_eq_some_iff.1 h).1), kind_of h, hk, getO_of h hj]; rfl
theorem op13 (h : d.rows[i]? = some o) (hk : o.1 = 1) {p : V2} (hj : o.2[0]? = some p) (tt : Bool) : P10v d [.hptr 0, .int .i64 13, .lst (v1 7 (.ofNat i)) 1 tt false] = some (true, getV (p, 0), d) := by
  show some (okp d (v1 7 (.ofNat i)) 1 && (eqI (kindOf d.rows 7 (.ofNat i)) 1 && eqI (getO d 7 (.ofNat i) (.ofNat 0)).2 0), getV (getO d 7 (.ofNat i) (.ofNat 0)), d) = _
  rw [okp_1 (v := (7, .ofNat i)) (snd_obj (List.getElem?_eq_some_iff.1 h).1), kind_of h, hk, getO_of h hj]; rfl
theorem op14 (h : d.rows[i]? = some o) (hk : o.1 = 1) {p : V2} (hj : o.2[1]? = some p) (tt : Bool) : P10v d [.hptr 0, .int .i64 14, .lst (v1 7 (.ofNat i)) 1 tt false] = some (true, getV (p, 0), d) := by
  show some (okp d (v1 7 (.ofNat i)) 1 && (eqI (kindOf d.rows 7 (.ofNat i)) 1 && eqI (getO d 7 (.ofNat i) (.ofNat 1)).2 0), getV (getO d 7 (.ofNat i) (.ofNat 1)), d) = _
  rw [okp_1 (v := (7, .ofNat i)) (snd_obj (List.getElem?_eq_some_iff.1 h).1), kind_of h, hk, getO_of h hj]; rfl
theorem setOf_rows (h : d.rows[i]? = some o) (j : Nat) (x : V2) : (setOf d i j x).rows = d.rows.set i (setO o j x) := by unfold setOf; rw [h]
theorem setOf_at (h : d.rows[i]? = some o) (j : Nat) (x : V2) : (setOf d i j x).rows[i]? = some (setO o j x) := by
  rw [setOf_rows h, List.getElem?_set]
  rw [if_pos rfl, if_pos (List.getElem?_eq_some_iff.1 h).1]
theorem setOf_ne (h : d.rows[i]? = some o) (j : Nat) (x : V2) {k : Nat} (hk : k ≠ i) : (setOf d i j x).rows[k]? = d.rows[k]? := by
  rw [setOf_rows h, List.getElem?_set, if_neg fun e => hk e.symm]
theorem setOf_Ok {L u : Int} (hd : Ok L d u) (h : d.rows[i]? = some o) (j : Nat) (x : V2) : Ok L (setOf d i j x) u := by
  have h1 := hd.1
  refine ⟨?_, by rw [setOf_rows h, List.length_set]; exact hd.2⟩
  rw [setOf_rows h]
  unfold setOf
  rw [h]
  show (⟨d.kind, d.nums, d.rows.set i (setO o j x), d.names⟩ : Hid) = stt L u _
  rw [h1]; rfl
end
theorem p29 {d : Hid} {v : V2} {tt : Bool} {q : Bool × AV × Hid} (h : P10 d [.hptr 0, .int .i64 29, .lst (v1 v.1 v.2) 1 tt false] = some q) : P10v d [.hptr 0, .int .i64 29, .lst (v1 v.1 v.2) 1 tt false] = some q := by
  unfold P10v orF
  rw [h]
end Go.Am.Sto
end
section
set_option autoImplicit false
set_option maxRecDepth 100000
namespace Go.Am.Sto
open Go Go.Am Go.Proofs

theorem same2_self (a b : Int) : same2 a a b b = true := by unfold same2; rw [eqI_self, eqI_self]; rfl
theorem exit_ok {u : Int} {d : Hid} (h : Ok 3000 d u) (hu : u + 5 ≤ 3000) (at_ x : Int) : exit6 cRn tRn nRn DRn at_ x d = some (.bool true) := by
  have hL : (3000 : Int) ≤ 1048576 := by omega
  have f1 := op49 hL h at_ (by omega) true
  have o4 : Ok 3000 (stt 3000 (u + 2) (d.rows ++ [(3, [(4, at_)])])) (u + 2) := ⟨rfl, by have := h.2; show ((d.rows ++ [(3, [((4 : Int), at_)])]).length : Int) ≤ _; simp; omega⟩
  have f2 := op12 hL o4 at_ at_ (by omega) true
  rw [show u + 2 + 3 = u + 5 by omega] at f2
  have r4 : (stt 3000 (u + 2) (d.rows ++ [(3, [(4, at_)])])).rows = d.rows ++ [(3, [(4, at_)])] := rfl
  rw [r4] at f2
  generalize hd5 : stt 3000 (u + 5) ((d.rows ++ [(3, [(4, at_)])]) ++ [(1, [(4, at_), (4, at_)])]) = d5 at f2
  have r5 : d5.rows = (d.rows ++ [(3, [(4, at_)])]) ++ [(1, [(4, at_), (4, at_)])] := by rw [← hd5]; rfl
  have b5 : d5.rows[d.rows.length]? = some (3, [(4, at_)]) := by rw [r5]; exact get_more (by simp)
  have p5 : d5.rows[(d.rows ++ [((3 : Int), [((4 : Int), at_)])]).length]? = some (1, [(4, at_), (4, at_)]) := by rw [r5]; simp
  have hq : (d.rows ++ [((3 : Int), [((4 : Int), at_)])]).length = d.rows.length + 1 := by simp
  rw [hq] at f2 p5
  have f3 := op51 b5 rfl (by simp) x true
  have p6 : (setOf d5 d.rows.length 0 (4, x)).rows[d.rows.length + 1]? = some (1, [(4, at_), (4, at_)]) := by rw [setOf_ne b5 _ _ (by omega)]; exact p5
  have b6 : (setOf d5 d.rows.length 0 (4, x)).rows[d.rows.length]? = some (3, [(4, x)]) := setOf_at b5 0 (4, x)
  generalize setOf d5 d.rows.length 0 (4, x) = d6 at f3 p6 b6
  have f4 := op16 p6 rfl (by simp) x true
  have b7 : (setOf d6 (d.rows.length + 1) 1 (4, x)).rows[d.rows.length]? = some (3, [(4, x)]) := by rw [setOf_ne p6 _ _ (by omega)]; exact b6
  have p7 : (setOf d6 (d.rows.length + 1) 1 (4, x)).rows[d.rows.length + 1]? = some (1, [(4, at_), (4, x)]) := setOf_at p6 1 (4, x)
  generalize setOf d6 (d.rows.length + 1) 1 (4, x) = d7 at f4 b7 p7
  have f5 := op50 (p := (4, x)) b7 rfl rfl true
  have f6 := op13 (p := (4, at_)) p7 rfl rfl true
  have f7 := op14 (p := (4, x)) p7 rfl rfl true
  unfold exit6
  refine (stp_of (run_of (nm := nBox) (op := 49) rfl rfl rfl f1) _).trans ?_
  refine (ifK_t (by rw [sm_v]; rfl) _).trans ?_
  refine (stp_of (run_of (nm := nCons) (op := 12) rfl rfl rfl f2) _).trans ?_
  refine (stp_of (run_of (nm := nSB) (op := 51) rfl rfl rfl f3) _).trans ?_
  refine (stp_of (run_of (nm := nSC) (op := 16) rfl rfl rfl f4) _).trans ?_
  refine (stp_of (run_of (nm := nUn) (op := 50) rfl rfl rfl f5) _).trans ?_
  refine (ifK_t (by rw [sm_v]; rfl) _).trans ?_
  refine (byB_t (same2_self 4 x) _ _).trans ?_
  refine (stp_of (run_of (nm := nCar) (op := 13) rfl rfl rfl f6) _).trans ?_
  refine (ifK_t (by rw [sm_v]; rfl) _).trans ?_
  refine (byB_t (same2_self 4 at_) _ _).trans ?_
  refine (stp_of (run_of (nm := nCdr) (op := 14) rfl rfl rfl f7) _).trans ?_
  refine (ifK_t (by rw [sm_v]; rfl) _).trans ?_
  show some (AV.bool (same2 4 4 x x)) = _
  rw [same2_self]

abbrev LL6 (P : Program) (N : Nat) : T → St → Option AV := L6 cRn c13 cA tRn nRn t13 n13 tA nA eA DRn D13' DA P N
theorem loop6 {u : Int} (l : List Int) (hl : l.length ≤ 200) (nl : Bool) (x : Int) (d : Hid) (i j : Nat) (hj : j < l.length) (hrow : d.rows[i]? = some (2, (fx l).set j (4, x))) (f0 f1 w0 w1 : Int) (hd : Ok 3000 d u) (hu : u + 5 ≤ 3000) :
    ∀ (N k : Nat), k ≤ l.length → l.length < N + k → LL6 Tryz.prog N (tVec (intsA l) l.length nl (.ofNat j) x (.ofNat k)) (sVec d f0 f1 7 (.ofNat i) (.ofNat j) x w0 w1) = some (.bool true)
  | 0, k, h1, h2 => by omega
  | N + 1, k, h1, h2 => by
    have hlen : (fx l).length = l.length := List.length_map _
    refine (step6 _ _ _ _ _ _ _ _ _ _ _ _ _ _ _ _ _ _ N k d f0 f1 7 (.ofNat i) w0 w1).trans ?_
    by_cases hk : k < l.length
    case neg =>
      refine (byB_f (by rw [leI_t (show Int.ofNat l.length ≤ Int.ofNat k by simp only [Int.ofNat_eq_natCast]; omega)]; rfl) _ _).trans ?_
      exact exit_ok hd hu _ x
    have rnd : ∀ want, ((fx l).set j (4, x))[k]? = some (4, want) → rnd6 cRn c13 cA tRn nRn t13 n13 tA nA eA DRn D13' DA (intsA l) l.length nl (.ofNat j) x Tryz.prog N k d f0 f1 7 (.ofNat i) w0 w1 want = some (.bool true) := fun want hw => by
      refine (stp_of (run_of (nm := nVR) (op := 25) rfl rfl rfl (ref_in hrow rfl hw (by omega) true)) _).trans ?_
      refine (byB_f rfl _ _).trans ?_
      refine (byB_f (show (!eqI want want) = false by rw [eqI_self]; rfl) _ _).trans ?_
      refine (ifK_t (intsA_under 7 l) _).trans ?_
      rw [wrap64 (by simp only [Int.ofNat_eq_natCast]; omega) (by simp only [Int.ofNat_eq_natCast]; omega)]
      exact loop6 l hl nl x d i j hj hrow f0 f1 w0 w1 hd hu N (k + 1) (by omega) (by omega)
    refine (byB_t (by rw [leI_f (show Int.ofNat k < Int.ofNat l.length by simp only [Int.ofNat_eq_natCast]; omega)]; rfl) _ _).trans ?_
    refine (ifK_t (by rw [show Nat.blt k l.length = true by simpa using hk]; cases l with | nil => simp at hk | cons => rfl) _).trans ?_
    rw [Nat.mul_one, intsA_get, List.getElem?_eq_getElem hk]
    show byB (eqI (.ofNat k) (.ofNat j)) _ _ = _
    by_cases hkj : k = j
    · subst hkj
      refine (byB_t (eqI_self _) _ _).trans ?_
      refine rnd x ?_
      rw [List.getElem?_set, if_pos rfl, if_pos (by omega)]
    · refine (byB_f (show eqI (.ofNat k) (.ofNat j) = false by show k.beq j = false; cases h : k.beq j with | false => rfl | true => exact absurd (Nat.eq_of_beq_eq_true h) hkj) _ _).trans ?_
      refine rnd l[k] ?_
      rw [List.getElem?_set, if_neg (fun e => hkj e.symm)]
      show (l.map fun z => ((4 : Int), z))[k]? = _
      rw [List.getElem?_map, List.getElem?_eq_getElem hk]; rfl

theorem err_ok {d : Hid} {i : Nat} {o : Ob} (h : d.rows[i]? = some o) (hk : o.1 = 2) {z : Int} (hz : z < 0 ∨ (o.2.length : Int) ≤ z) (hs : small z = true) : err6 cA eA z d 12 7 (.ofNat i) = some (.bool true) := by
  obtain ⟨a1, _, _, a4, _⟩ := ap_of (ref_out h hk hz hs true)
  unfold err6
  refine (ifK_t a1 _).trans ?_
  refine (byB_t rfl _ _).trans ?_
  rw [a4]; rfl

theorem law6 (l : List Int) (nl : Bool) (at_ x : Int) : bodyY Tryz.prog G2 XL6 YL6 5 8 D6 Res.val? 300 Tryz.prog.funcs[6]? [.lst (intsA l) l.length false nl, .int .i64 at_, .int .i64 x] St.empty = some (.bool true) := by
  refine (start6 _ _ _ _ _ _ _ _ _ _ _ _ _ _ _ _ _ _).trans ?_
  by_cases hl : l.length ≤ 200
  case neg => exact byB_t (by rw [leI_f (show (200 : Int) < Int.ofNat l.length by simp only [Int.ofNat_eq_natCast]; omega)]; rfl) _ _
  refine (byB_f (by rw [leI_t (show Int.ofNat l.length ≤ (200 : Int) by simp only [Int.ofNat_eq_natCast]; omega)]; rfl) _ _).trans ?_
  by_cases h1 : x ≤ -1000000000000000000
  · exact byB_t (leI_t h1) _ _
  refine (byB_f (leI_f (by omega)) _ _).trans ?_
  by_cases h2 : 1000000000000000000 ≤ x
  · exact byB_t (leI_t h2) _ _
  refine (byB_f (leI_f (by omega)) _ _).trans ?_
  by_cases h3 : at_ ≤ -1000000000000000000
  · exact byB_t (leI_t h3) _ _
  refine (byB_f (leI_f (by omega)) _ _).trans ?_
  by_cases h4 : 1000000000000000000 ≤ at_
  · exact byB_t (leI_t h4) _ _
  refine (byB_f (leI_f (by omega)) _ _).trans ?_
  have hs : small at_ = true := small_of (by omega) (by omega)
  refine (ifK_t (intsA_plain l nl) _).trans ?_
  have hL : (3000 : Int) ≤ 1048576 := by omega
  have hlen : (fx l).length = l.length := List.length_map _
  obtain ⟨f, d1, g1, o1, _, i1⟩ := fixs_ok hL (Ok.new 3000) l (by omega) (by omega) false nl
  obtain ⟨i, d2, g2, o2, _, i2⟩ := op29 hL o1 (nums_fx l) i1 (by omega) (by omega) (by omega) true
  refine (stp_of g1 _).trans ?_
  refine (stp_of (run_of (nm := sLV) (op := 29) rfl rfl rfl (p29 g2)) _).trans ?_
  by_cases hz : at_ < 0 ∨ (l.length : Int) ≤ at_
  · obtain ⟨a1, _, _, a4, a5⟩ := ap_of (vset_out (o := (2, fx l)) i2 rfl (by show at_ < 0 ∨ ((fx l).length : Int) ≤ at_; rw [hlen]; exact hz) hs x true)
    refine (ifK_t a1 _).trans ?_
    have he := err_ok (o := (2, fx l)) i2 rfl (z := at_) (by show at_ < 0 ∨ ((fx l).length : Int) ≤ at_; rw [hlen]; exact hz) hs
    show byB (!leI 0 at_) (err6 cA eA at_ (DA d2 (A26 at_ x 7 (.ofNat i))) (eA d2 (A26 at_ x 7 (.ofNat i))) 7 (.ofNat i)) (byB (leI (.ofNat l.length) at_) (err6 cA eA at_ (DA d2 (A26 at_ x 7 (.ofNat i))) (eA d2 (A26 at_ x 7 (.ofNat i))) 7 (.ofNat i)) _) = _
    rw [show DA d2 (A26 at_ x 7 (.ofNat i)) = d2 from a5, show eA d2 (A26 at_ x 7 (.ofNat i)) = 12 from a4]
    by_cases h0 : at_ < 0
    · exact (byB_t (by rw [leI_f h0]; rfl) _ _).trans he
    · refine (byB_f (by rw [leI_t (show (0 : Int) ≤ at_ by omega)]; rfl) _ _).trans ?_
      exact (byB_t (leI_t (show Int.ofNat l.length ≤ at_ by simp only [Int.ofNat_eq_natCast]; omega)) _ _).trans he
  · obtain ⟨j, rfl⟩ : ∃ j : Nat, at_ = .ofNat j := ⟨at_.toNat, by simp only [Int.ofNat_eq_natCast]; omega⟩
    have hj : j < l.length := by simp only [Int.ofNat_eq_natCast] at hz; omega
    obtain ⟨a1, a2, _, a4, a5⟩ := ap_of (vset_in (o := (2, fx l)) i2 rfl (by rw [hlen]; exact hj) (by omega) x true)
    refine (ifK_t a1 _).trans ?_
    refine (byB_f (by rw [leI_t (show (0 : Int) ≤ Int.ofNat j from Int.natCast_nonneg j)]; rfl) _ _).trans ?_
    refine (byB_f (leI_f (show Int.ofNat j < Int.ofNat l.length by simp only [Int.ofNat_eq_natCast]; omega)) _ _).trans ?_
    refine (byB_f (show (!eqI (eA d2 (A26 (.ofNat j) x 7 (.ofNat i))) 0) = false by rw [show eA d2 (A26 (.ofNat j) x 7 (.ofNat i)) = 0 from a4]; rfl) _ _).trans ?_
    refine (byB_f (show (!eqI (tA d2 (A26 (.ofNat j) x 7 (.ofNat i))) 3) = false by rw [show tA d2 (A26 (.ofNat j) x 7 (.ofNat i)) = 3 from a2]; rfl) _ _).trans ?_
    rw [show DA d2 (A26 (.ofNat j) x 7 (.ofNat i)) = setOf d2 i j (4, x) from a5]
    exact loop6 l hl nl x _ i j hj (setOf_at i2 j (4, x)) _ _ _ _ (setOf_Ok o2 i2 j (4, x)) (by omega) 300 0 (by omega) (by omega)
end Go.Am.Sto
end
section
set_option autoImplicit false
set_option maxRecDepth 100000
namespace Go.Am.Sto
open Go Go.Am Go.Proofs

/-- what is asked of the world: the powers of ten -/
theorem glob_start {w : World} (hT : Lib.TabIs Tryz.prog w "internal/strconv.uint64pow10" .u64 Lib.pow10Tab) : GlobOk (Env.cells (zAll w) H0) G2 w := by
  unfold Lib.TabIs World.var? at hT
  rw [show Tryz.prog.globalNamed "internal/strconv.uint64pow10" = some 4 by kernel_rfl] at hT
  simp only [Option.bind_some] at hT
  split at hT
  case h_2 => cases hT
  rename_i c ty fz hc
  simp only [Option.some.injEq] at hT
  have hlen : (Lib.pow10Tab.map fun z => Value.int .u64 z).length = 20 := by simp [Lib.pow10Tab]
  have cell : ∀ i v, (Lib.pow10Tab.map fun z => Value.int .u64 z)[i]? = some v → zAll w 4 i = some v := fun i v hv => by
    show w.cell? ⟨4, i, none⟩ = _
    unfold World.cell?
    simp only [hc]
    show c[i]? = _
    rw [hT, List.getElem?_toArray]; exact hv
  have vals : ∀ l : List Int, VRL (Env.cells (zAll w) H0) (l.map (AV.int .u64)) (l.map fun z => Value.int .u64 z) := fun l => by
    induction l with
    | nil => exact .nil
    | cons z l ih => exact .cons (.int _ _) ih
  refine ⟨⟨fun g cs hg => ?_, fun g n hg => ?_⟩, rfl⟩
  · unfold G2 at hg
    simp only at hg
    split at hg
    · cases hg; exact ⟨_, vals _, cell⟩
    · cases hg
  · unfold G2 at hg
    simp only at hg
    split at hg
    · cases hg
      refine ⟨⟨.int .u64 1, cell 0 _ rfl⟩, c, ty, fz, hc, ?_⟩
      rw [hT, List.size_toArray, hlen]
    · cases hg

theorem walk6 (a : Option Addr) (la ca : Nat) (za : List Int) (at_ x : Int) (w : World) (ha : IsRow w a la ca za) (hT : Lib.TabIs Tryz.prog w "internal/strconv.uint64pow10" .u64 Lib.pow10Tab) :
    Calls Tryz.prog 6 #[.slice a la ca, .int .i64 at_, .int .i64 x] w fun e w' => e = .returned (.bool true) ∧ Go.RowKit.Below w.heap.size w w' := by
  have h := returns_of_Y (D := D6) (m := 300) (loops := 5) (n := 8) (f := 6) (vs := [.slice a la ca, .int .i64 at_, .int .i64 x]) hm hn kX6 kY6 (Rel.seen (H := H0) (z := zAll w) fun _ _ _ e => e) (glob_start hT)
    (.cons ha.VR (.cons (.int _ _) (.cons (.int _ _) .nil))) (law6 za _ at_ x) (fun fn hf => by
      have : fn = Tryz.f6 := Option.some.inj (hf.symm.trans (show Tryz.prog.funcs[6]? = some Tryz.f6 by kernel_rfl))
      subst this; rfl)
  refine Calls.mono h fun e w' ⟨v', E', s', he, hs, hv⟩ => ?_
  cases hv
  exact ⟨he, Step.below hs⟩
end Go.Am.Sto
end
