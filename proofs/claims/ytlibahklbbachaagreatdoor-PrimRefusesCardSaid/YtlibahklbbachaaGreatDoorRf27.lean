import Derived.Test.YtlibahklbbachaaGreatDoorRf26
set_option autoImplicit false
set_option maxRecDepth 100000
set_option linter.unusedSimpArgs false
set_option linter.unusedVariables false
section
namespace Go.Am.Sto
open Go Go.Am Go.Proofs
theorem minusT_n (x : Int) (r : List Int) (i : Nat) (w : Int) (acc : List AV) : minusT (x :: r) [] i w acc = byB (!leI w x) (minusT r [] (i + 1) 1 (acc ++ [.int .u32 (W32' (W32' (x + 1000000000) - w))])) (minusT r [] (i + 1) 0 (acc ++ [.int .u32 (W32' (x - w))])) := rfl
theorem minusT_c (x : Int) (r : List Int) (y : Int) (q : List Int) (i : Nat) (w : Int) (acc : List AV) : minusT (x :: r) (y :: q) i w acc = byB (!leI (W32' (w + y)) x) (minusT r q (i + 1) 1 (acc ++ [.int .u32 (W32' (W32' (x + 1000000000) - W32' (w + y)))])) (minusT r q (i + 1) 0 (acc ++ [.int .u32 (W32' (x - W32' (w + y)))])) := rfl
theorem minus_step {x : Int} {r b : List Int} {i : Nat} {w : Int} {acc : List AV} (hx : 0 ≤ x ∧ x < 1000000000) (hb : lims b) (hw : 0 ≤ w ∧ w ≤ 1) :
  ∃ w' c, minusT (x :: r) b i w acc = minusT r b.tail (i + 1) w' (acc ++ [c]) ∧ (0 ≤ w' ∧ w' ≤ 1) ∧ isLimb c = true := by
 cases b with
 | nil =>
  rw [minusT_n]
  by_cases hc : w ≤ x
  ·exact ⟨0, _, by rw [leI_t hc]; rfl, ⟨by omega, by omega⟩, minus_cell hx ⟨by omega, by omega⟩ hc⟩
  ·exact ⟨1, _, by rw [leI_f (show x < w by omega)]; rfl, ⟨by omega, by omega⟩, minus_cell' hx ⟨by omega, by omega⟩ (by omega)⟩
 | cons y q =>
  have hy := hb y (by simp)
  rw [minusT_c]
  have hy' : W32' (w + y) = w + y := w32 (by omega) (by omega)
  rw [hy']
  by_cases hc : w + y ≤ x
  ·exact ⟨0, _, by rw [leI_t hc]; rfl, ⟨by omega, by omega⟩, minus_cell hx ⟨by omega, by omega⟩ hc⟩
  ·exact ⟨1, _, by rw [leI_f (show x < w + y by omega)]; rfl, ⟨by omega, by omega⟩, minus_cell' hx ⟨by omega, by omega⟩ (by omega)⟩
theorem lims_tail {b : List Int} (h : lims b) : lims b.tail := fun z hz => h z (List.mem_of_mem_tail hz)
theorem minusT_3 {x0 x1 x2 : Int} {b : List Int} (ha : lims [x0, x1, x2]) (hb : lims b) (hl : b.length ≤ 2) (h2 : 1 ≤ x2) : ∃ cs z, minusT [x0, x1, x2] b 0 0 [] = some ⟨cs, 3, 1, 75⟩ ∧ cs[2]? = some (.int .u32 z) ∧ z ≤ x2 := by
 obtain ⟨w1, c1, e1, hw1, _⟩ := minus_step (r := [x1, x2]) (b := b) (i := 0) (w := 0) (acc := []) (ha x0 (by simp)) hb ⟨by omega, by omega⟩
 obtain ⟨w2, c2, e2, hw2, _⟩ := minus_step (r := [x2]) (b := b.tail) (i := 1) (w := w1) (acc := [] ++ [c1]) (ha x1 (by simp)) (lims_tail hb) hw1
 have ht : b.tail.tail = [] := by
  match b, hl with
  | [], _ => rfl
  | [_], _ => rfl
  | [_, _], _ => rfl
 have hx2 := ha x2 (by simp)
 refine ⟨[c1, c2, .int .u32 (W32' (x2 - w2))], W32' (x2 - w2), ?_, rfl, ?_⟩
 ·rw [e1, e2, ht]
  show byB (!leI w2 x2) _ _ = _
  rw [leI_t (show w2 ≤ x2 by omega)]; rfl
 ·have : W32' (x2 - w2) = x2 - w2 := w32 (by omega) (by omega)
  omega
structure Num3 (i : Int) (ng : Bool) (a : List AV) (n : Nat) (nl : Bool) : Prop where
 snd : sndG ng a n = true
 le : n ≤ 3
 top : ∀ z, a[2]? = some (.int .u32 z) → z ≤ i
 nl : n ≠ 0 → nl = false
theorem Num3.lim {i : Int} {ng : Bool} {a : List AV} {n : Nat} {nl : Bool} (h : Num3 i ng a n nl) : lim3 n a = true := by
 have hs := h.snd
 unfold sndG at hs
 rw [Bool.and_eq_true, Bool.and_eq_true] at hs
 unfold lim3
 rw [Nat.ble_eq_true_of_le h.le, hs.2.1]; rfl
theorem Num3.plain {i : Int} {ng : Bool} {a : List AV} {n : Nat} {nl : Bool} (h : Num3 i ng a n nl) : AV.plains a = true := by
 have hs := h.snd
 unfold sndG at hs
 rw [Bool.and_eq_true, Bool.and_eq_true] at hs
 exact limbsOk_plains hs.2.1
theorem Num3.pos {i : Int} {ng : Bool} {a : List AV} {n : Nat} {nl : Bool} (h : Num3 i ng a n nl) (h0 : ng = true) : n ≠ 0 := by
 intro hn
 subst hn h0
 have hs := h.snd
 unfold sndG at hs
 simp at hs
theorem Num3.topN {i : Int} {ng : Bool} {a : List AV} {nl : Bool} (h : Num3 i ng a 3 nl) : ∃ z, a[2]? = some (.int .u32 z) ∧ 1 ≤ z ∧ z ≤ i := by
 have hs := h.snd
 unfold sndG at hs
 rw [Bool.and_eq_true, Bool.and_eq_true] at hs
 obtain ⟨_, h5, h6⟩ := limbsOk_eq hs.2.1
 obtain ⟨z, e, z0, _⟩ := h6 2 (by omega)
 have h7 := hs.2.2
 simp only [e] at h7
 refine ⟨z, e, ?_, h.top z e⟩
 have : z ≠ 0 := fun h0 => by subst h0; cases h7
 omega
theorem plus3 {i : Int} (hi : 0 ≤ i ∧ i < 1000) {ng mg : Bool} {a b : List AV} {n m : Nat} {l1 l2 : Bool} (ha : Num3 i ng a n l1) (hb : Num3 0 mg b m l2) (hm : m ≤ 2) :
  ∃ cs len, plusR a b n m = ⟨cs, len, 1, 75⟩ ∧ cs.all isLimb = true ∧ cs.length = len ∧ len ≤ 4 ∧ trimA cs len ≤ 3 ∧ ∀ z, cs[2]? = some (.int .u32 z) → z ≤ i + 1 := by
 obtain ⟨R, e, e2⟩ := plusR_ok ha.lim hb.lim
 rw [e2]
 have ga := lim3_get ha.lim
 have gb := lim3_get hb.lim
 have hn := ha.le
 -- what has at most three limbs
 have small : ∀ {cs : List AV} {k : Nat}, cs.length = k + 1 → k ≤ 2 → (∃ z, cs[k]? = some (.int .u32 z) ∧ 0 ≤ z ∧ z ≤ 1) → ∀ z, cs[2]? = some (.int .u32 z) → z ≤ i + 1 := by
  intro cs k hl hk ⟨y, e, _, y1⟩ z hz
  by_cases h2 : k = 2
  ·subst h2; rw [hz] at e; cases e; omega
  ·rw [List.getElem?_eq_none (by omega)] at hz; cases hz
 cases h : Nat.blt n m with
 | true =>
  rw [h] at e
  have hlt : n < m := Nat.le_of_ble_eq_true h
  obtain ⟨cs, e3, h4, h5, h6⟩ := plusT_ok gb ga m 0 0 [] (by omega) ⟨by omega, by omega⟩ rfl rfl
  have e : plusT b a n m 0 0 [] = some R := e
  rw [e3] at e; cases e
  exact ⟨cs, m + 1, rfl, h5, h4, by omega, Nat.le_trans (trimA_le _ _) (by omega), small h4 hm h6⟩
 | false =>
  rw [h] at e
  have e : plusT a b m n 0 0 [] = some R := e
  by_cases h3 : n = 3
  ·subst h3
   obtain ⟨z2, f, f1, f2⟩ := ha.topN
   obtain ⟨cs, z, e3, h4, h5, h6, h7, h8⟩ := plusT_3 ga gb rfl hm f ⟨by omega, by omega⟩
   rw [e3] at e; cases e
   refine ⟨cs, 4, rfl, h5, h4, by omega, ?_, fun y hy => by rw [h6] at hy; cases hy; omega⟩
   have : trimA cs 4 = trimA cs 3 := by
    show (match cs[3]? with | some (.int .u32 z) => bif eqI z 0 then trimA cs 3 else 4 | _ => 0) = _
    rw [h8]; rfl
   rw [this]; exact trimA_le cs 3
  ·obtain ⟨cs, e3, h4, h5, h6⟩ := plusT_ok ga gb n 0 0 [] (by omega) ⟨by omega, by omega⟩ rfl rfl
   rw [e3] at e; cases e
   exact ⟨cs, n + 1, rfl, h5, h4, by omega, Nat.le_trans (trimA_le _ _) (by omega), small h4 (by omega) h6⟩
end Go.Am.Sto
end
section
namespace Go.Am.Sto
open Go Go.Am Go.Proofs
abbrev b70s (P : Program) (ng : Bool) (a : List AV) (n : Nat) (t1 l1 : Bool) (mg : Bool) (b : List AV) (m : Nat) (t2 l2 : Bool) : Option AV := b70 sndG cpS cmS cpS rpS rmS lpS lmS szS P ng a n t1 l1 mg b m t2 l2
theorem pl2_t {a : List AV} {n : Nat} {t1 l1 : Bool} {b : List AV} {m : Nat} {t2 l2 : Bool} (ha : AV.plains a = true) (hb : AV.plains b = true) (x : Option AV) : pl2 a n t1 l1 b m t2 l2 x = x := by
 unfold pl2
 refine (ifK_t ha _).trans ?_
 exact ifK_t hb _
theorem num_of (i : Int) (ng : Bool) {cs : List AV} {len : Nat} (hc : cs.all isLimb = true) (hl : cs.length = len) (hlen : len ≤ 65) (h3 : trimA cs len ≤ 3) (ht : ∀ z, cs[2]? = some (.int .u32 z) → z ≤ i) :
  ∃ g r k, ofT ng cs len = numR3 g r k false false 0 ∧ Num3 i g r k false := by
 obtain ⟨g, e, hs⟩ := ofT_ok ng hc hl hlen (by omega)
 refine ⟨g, _, _, e, hs, h3, fun z hz => ?_, fun _ => rfl⟩
 rw [List.getElem?_take] at hz
 split at hz
 ·exact ht z hz
 ·cases hz
theorem lim_ints {n : Nat} {a : List AV} (h : lim3 n a = true) : (ints a).length = n ∧ lims (ints a) ∧ u32s (ints a) = a := by
 obtain ⟨l, e, h1, _, h2, h3⟩ := lim3_is h
 rw [h2]
 exact ⟨h1, h3, e.symm⟩
theorem add_diff {i : Int} {ng mg : Bool} {a b : List AV} {n m : Nat} {t1 t2 l1 l2 : Bool} (ha : Num3 i ng a n l1) (hb : Num3 0 mg b m l2) (hm : m ≤ 2) (hd : ng = true ∨ mg = true) :
  ∃ g r k, diffT cmS cpS rmS lmS szS a n t1 l1 b m t2 l2 ng mg = numR3 g r k false false 0 ∧ Num3 (i + 1) g r k false := by
 obtain ⟨e1, e2, e3⟩ := lim_ints ha.lim
 obtain ⟨f1, f2, f3⟩ := lim_ints hb.lim
 have hp : n ≠ 0 ∨ m ≠ 0 := hd.elim (fun h => .inl (ha.pos h)) fun h => .inr (hb.pos h)
 have hn := ha.le
 unfold diffT
 rw [pl2_t ha.plain hb.plain]
 have hcz : cpS a n b m l1 = true := by unfold cpS; rw [ha.lim, hb.lim]; rfl
 refine (show ∀ {x}, (∃ g r k, x = numR3 g r k false false 0 ∧ Num3 (i + 1) g r k false) → ∃ g r k, ifK (cpS a n b m l1) x = numR3 g r k false false 0 ∧ Num3 (i + 1) g r k false from fun {x} h => by rw [hcz]; exact h) ?_
 by_cases hs : 0 ≤ szI (ints a) (ints b)
 ·-- the first is no less
  rw [show leI 0 (szS a n b m) = true from leI_t hs]
  show ∃ g r k, pl2 _ _ _ _ _ _ _ _ _ = _ ∧ _
  rw [pl2_t ha.plain hb.plain]
  have hmn : m ≤ n := by
   rcases Nat.lt_or_ge n m with h1 | h1
   ·exfalso
    unfold szI at hs
    rw [e1, f1, show Nat.blt n m = true by simpa using h1] at hs
    exact absurd (show (0 : Int) ≤ -1 from hs) (by decide)
   ·exact h1
  have hn0 : 1 ≤ n := by omega
  have hcm : cmS a n b m l1 = true := by
   show (lim3 n a && (lim3 m b && (Nat.ble m n && (Nat.ble 1 n && !l1)))) = true
   rw [ha.lim, hb.lim, Nat.ble_eq_true_of_le hmn, Nat.ble_eq_true_of_le hn0, ha.nl (by omega)]; rfl
  obtain ⟨cs, k1, k2, k3, k4⟩ := minusR_ok e2 f2
  rw [hcm]
  show ∃ g r k, ofT ng (minusR (ints a) (ints b)).cs (minusR (ints a) (ints b)).len = _ ∧ _
  rw [k2]
  show ∃ g r k, ofT ng cs (ints a).length = _ ∧ _
  refine num_of (i + 1) ng k4 k3 (by omega) (Nat.le_trans (trimA_le _ _) (by omega)) fun z hz => ?_
  by_cases h3 : n = 3
  ·subst h3
   obtain ⟨z2, g1, g2, g3⟩ := ha.topN
   match hh : ints a, e1 with
   | [x0, x1, x2], _ =>
    have hx2 : x2 = z2 := by
     rw [← e3, hh] at g1
     have : some (AV.int .u32 x2) = some (AV.int .u32 z2) := g1
     cases this; rfl
    rw [hh] at e2 k1
    obtain ⟨cs', y, p1, p2, p3⟩ := minusT_3 e2 f2 (by omega) (by omega)
    rw [p1] at k1
    have : cs' = cs := by cases k1; rfl
    subst this
    rw [p2] at hz; cases hz; omega
  ·rw [List.getElem?_eq_none (by omega)] at hz; cases hz
 ·-- the second is more
  rw [show leI 0 (szS a n b m) = false from leI_f (by show szI (ints a) (ints b) < 0; omega)]
  show ∃ g r k, pl2 _ _ _ _ _ _ _ _ _ = _ ∧ _
  rw [pl2_t hb.plain ha.plain]
  have hnm : n ≤ m := by
   rcases Nat.lt_or_ge m n with h1 | h1
   ·exfalso
    unfold szI at hs
    rw [e1, f1, blt_f (show ¬ n < m by omega), show Nat.blt m n = true by simpa using h1] at hs
    exact hs (show (0 : Int) ≤ 1 by decide)
   ·exact h1
  have hm0 : 1 ≤ m := by omega
  have hcm : cmS b m a n l2 = true := by
   show (lim3 m b && (lim3 n a && (Nat.ble n m && (Nat.ble 1 m && !l2)))) = true
   rw [ha.lim, hb.lim, Nat.ble_eq_true_of_le hnm, Nat.ble_eq_true_of_le hm0, hb.nl (by omega)]; rfl
  obtain ⟨cs, k1, k2, k3, k4⟩ := minusR_ok f2 e2
  rw [hcm]
  show ∃ g r k, ofT mg (minusR (ints b) (ints a)).cs (minusR (ints b) (ints a)).len = _ ∧ _
  rw [k2]
  show ∃ g r k, ofT mg cs (ints b).length = _ ∧ _
  refine num_of (i + 1) mg k4 k3 (by omega) (Nat.le_trans (trimA_le _ _) (by omega)) fun z hz => ?_
  rw [List.getElem?_eq_none (by omega)] at hz; cases hz
theorem add_same {i : Int} (hi : 0 ≤ i ∧ i < 1000) {ng mg : Bool} {a b : List AV} {n m : Nat} {t1 t2 l1 l2 : Bool} (ha : Num3 i ng a n l1) (hb : Num3 0 mg b m l2) (hm : m ≤ 2) (sg : Bool) :
  ∃ g r k, sameT cpS rpS lpS a n t1 l1 b m t2 l2 sg = numR3 g r k false false 0 ∧ Num3 (i + 1) g r k false := by
 unfold sameT
 rw [pl2_t ha.plain hb.plain]
 have hcp : cpS a n b m l1 = true := by unfold cpS; rw [ha.lim, hb.lim]; rfl
 rw [hcp]
 obtain ⟨cs, len, e1, e2, e3, e4, e5, e6⟩ := plus3 hi ha hb hm
 show ∃ g r k, ofT sg (plusR a b n m).cs (plusR a b n m).len = _ ∧ _
 rw [e1]
 show ∃ g r k, ofT sg cs len = _ ∧ _
 exact num_of (i + 1) sg e2 e3 (by omega) e5 e6
theorem bothP_t {i j : Int} {ng mg : Bool} {a b : List AV} {n m : Nat} {t1 t2 l1 l2 : Bool} (ha : Num3 i ng a n l1) (hb : Num3 j mg b m l2) (x : Option AV) : bothP sndG a n t1 l1 b m t2 l2 ng mg x = x := by
 unfold bothP
 refine (ifK_t (show AV.plains [.bool ng, .lst a n t1 l1] = true from ?_) _).trans ?_
 ·show (true && (AV.plains a && true)) = true
  rw [ha.plain]; rfl
 refine (ifK_t ha.snd _).trans ?_
 refine (ifK_t (show AV.plains [.bool mg, .lst b m t2 l2] = true from ?_) _).trans ?_
 ·show (true && (AV.plains b && true)) = true
  rw [hb.plain]; rfl
 exact ifK_t hb.snd _
theorem add_ok {i : Int} (hi : 0 ≤ i ∧ i < 1000) {ng mg : Bool} {a b : List AV} {n m : Nat} {t1 t2 l1 l2 : Bool} (ha : Num3 i ng a n l1) (hb : Num3 0 mg b m l2) (hm : m ≤ 2) :
  ∃ g r k, b70s Tryz.prog ng a n t1 l1 mg b m t2 l2 = numR3 g r k false false 0 ∧ Num3 (i + 1) g r k false := by
 cases ng with
 | false =>
  cases mg with
  | false => rw [b70s, t70ff, bothP_t ha hb]; exact add_same hi ha hb hm false
  | true => rw [b70s, t70ft, bothP_t ha hb]; exact add_diff ha hb hm (.inr rfl)
 | true =>
  cases mg with
  | false => rw [b70s, t70tf, bothP_t ha hb]; exact add_diff ha hb hm (.inl rfl)
  | true => rw [b70s, t70tt, bothP_t ha hb]; exact add_same hi ha hb hm true
end Go.Am.Sto
end
section
namespace Go.Am.Sto
open Go Go.Am Go.Proofs
def isN (x : Option AV) : Bool := match x with | some (.tup [.agg [.bool _, .lst _ _ false _], .int .i64 _]) => true | _ => false
def gO (x : Option AV) : Bool := match x with | some (.tup [.agg [.bool g, _], _]) => g | _ => false
def rO (x : Option AV) : List AV := match x with | some (.tup [.agg [_, .lst r _ _ _], _]) => r | _ => []
def kO (x : Option AV) : Nat := match x with | some (.tup [.agg [_, .lst _ k _ _], _]) => k | _ => 0
def nO (x : Option AV) : Bool := match x with | some (.tup [.agg [_, .lst _ _ _ n], _]) => n | _ => false
def eO (x : Option AV) : Int := match x with | some (.tup [.agg _, .int _ e]) => e | _ => 0
def valM (x : Option AV) : AV := .tup [.agg [.bool (gO x), .lst (rO x) (kO x) false (nO x)], .int .i64 (eO x)]
theorem isN_eq {x : Option AV} (h : isN x = true) : x = some (valM x) := by
 unfold isN at h
 split at h
 ·rfl
 ·cases h
def F70 (P : Program) : List AV → Option (Bool × AV)
 | [.agg [.bool ng, .lst a n t1 l1], .agg [.bool mg, .lst b m t2 l2]] => some (isN (b70s P ng a n t1 l1 mg b m t2 l2), valM (b70s P ng a n t1 l1 mg b m t2 l2))
 | _ => none
theorem k70 : ZOk Tryz.prog G0 70 (F70 Tryz.prog) := z_known (D := noLive) (m := 3) (loops := 0) (n := 8) hm hn G0_plain kX70 kY70 fun ar x hF => by
 unfold F70 at hF
 split at hF
 case h_2 => cases hF
 rename_i ng a n t1 l1 mg b m t2 l2
 simp only [Option.some.injEq, Prod.mk.injEq] at hF
 obtain ⟨h1, rfl⟩ := hF
 exact isN_eq h1
/-! ## One less the other -/
section
variable (sn : Bool → List AV → Nat → Bool) (ad : Bool → List AV → Nat → Bool → Bool → Bool → List AV → Nat → Bool → Bool → Bool) (ag an : Bool → List AV → Nat → Bool → Bool → Bool → List AV → Nat → Bool → Bool → Bool) (ar : Bool → List AV → Nat → Bool → Bool → Bool → List AV → Nat → Bool → Bool → List AV)
 (ak : Bool → List AV → Nat → Bool → Bool → Bool → List AV → Nat → Bool → Bool → Nat) (ae : Bool → List AV → Nat → Bool → Bool → Bool → List AV → Nat → Bool → Bool → Int) (cz : List AV → Nat → List AV → Nat → Bool → Bool) (sz : List AV → Nat → List AV → Nat → Int)
def F70v : List AV → Option (Bool × AV)
 | [.agg [.bool ng, .lst a n t1 l1], .agg [.bool mg, .lst b m t2 l2]] => some (ad ng a n t1 l1 mg b m t2 l2, .tup [.agg [.bool (ag ng a n t1 l1 mg b m t2 l2), .lst (ar ng a n t1 l1 mg b m t2 l2) (ak ng a n t1 l1 mg b m t2 l2) false (an ng a n t1 l1 mg b m t2 l2)], .int .i64 (ae ng a n t1 l1 mg b m t2 l2)])
 | _ => none
def X72 : Known := (Known.none.add 35 (zX (F35v sn))).add 70 (zX (F70v ad ag an ar ak ae))
def Y72 {β : Type} : KnownK β := (KnownK.none.add 35 (zK (F35v sn))).add 70 (zK (F70v ad ag an ar ak ae))
def X76 : Known := (Known.none.add 35 (zX (F35v sn))).add 134 (zX (F134v cz sz))
def Y76 {β : Type} : KnownK β := (KnownK.none.add 35 (zK (F35v sn))).add 134 (zK (F134v cz sz))
def b76 (P : Program) (ng : Bool) (a : List AV) (n : Nat) (t1 l1 : Bool) (mg : Bool) (b : List AV) (m : Nat) (t2 l2 : Bool) : Option AV :=
 bodyY P G0 (X76 sn cz sz) (Y76 sn cz sz) 0 8 noLive Res.fresh0? 3 P.funcs[76]? [.agg [.bool ng, .lst a n t1 l1], .agg [.bool mg, .lst b m t2 l2]] St.empty
end
end Go.Am.Sto
end
