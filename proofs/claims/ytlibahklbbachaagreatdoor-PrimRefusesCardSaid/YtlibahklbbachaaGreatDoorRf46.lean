import Derived.Test.YtlibahklbbachaaGreatDoorRf45
import Derived.Shelf.Spec.SlicesInsertGrow
import Derived.Test.YtlibahklbbachaaGreatDoorProg
set_option autoImplicit false
set_option maxRecDepth 100000
set_option linter.unusedSimpArgs false
set_option linter.unusedVariables false
section
namespace Go.Am.Sto
open Go Go.Am Go.Proofs
section
variable (ct : List AV → Nat → Int → Bool) (rt : List AV → Nat → Int → List AV) (lt : List AV → Nat → Int → Nat) (cz : List AV → Nat → List AV → Nat → Bool → Bool) (sz : List AV → Nat → List AV → Nat → Int)
def X139 : Known := (Known.none.add 140 (zX (F140v ct rt lt))).add 134 (zX (F134v cz sz))
def Y139 {β : Type} : KnownK β := (KnownK.none.add 140 (zK (F140v ct rt lt))).add 134 (zK (F134v cz sz))
def D139 : Live := fun i => match i with | 0 => .keep [0, 1, 5, 6] | _ => .all
def b139 (M : Nat) (P : Program) (a : List AV) (n : Nat) (t1 l1 : Bool) (b : List AV) (m : Nat) (t2 l2 : Bool) : Option AV := bodyY P G0 (X139 ct rt lt cz sz) (Y139 ct rt lt cz sz) 0 5 D139 Res.fresh0? M P.funcs[139]? [.lst a n t1 l1, .lst b m t2 l2] St.empty
def L139 (M : Nat) (P : Program) (rounds : Nat) : T → St → Option AV := runLoop P G0 (X139 ct rt lt cz sz) (Y139 ct rt lt cz sz) 0 5 D139 Res.fresh0? M 139 (.keep [0, 1, 5, 6]) 0 rounds
def tHal (a : List AV) (n : Nat) (t1 l1 : Bool) (b : List AV) (m : Nat) (t2 l2 : Bool) (lo hi : Int) : T := tOf 27 [(0, .lst a n t1 l1), (1, .lst b m t2 l2), (5, .int .u32 lo), (6, .int .u32 hi)]
abbrev midV (lo hi : Int) : Int := W32 (lo + W32 ((W32 (hi - lo)).tdiv 2))
variable (M N : Nat) (a : List AV) (n : Nat) (t1 l1 : Bool) (b : List AV) (m : Nat) (t2 l2 : Bool) (lo hi : Int)
theorem s139 : b139 ct rt lt cz sz M Tryz.prog a n t1 l1 b m t2 l2 = L139 ct rt lt cz sz M Tryz.prog M (tHal a n t1 l1 b m t2 l2 0 1000000000) ⟨0, .nil⟩ := by kernel_rfl
theorem step139 : L139 ct rt lt cz sz M Tryz.prog (N + 1) (tHal a n t1 l1 b m t2 l2 lo hi) ⟨0, .nil⟩ =
  byB (!leI (W32 (hi - lo)) 1) (ifK (AV.plain (.lst b m t2 l2)) (ifK (ct b m (midV lo hi)) (ifK (AV.plain (.lst (rt b m (midV lo hi)) (lt b m (midV lo hi)) false false)) (ifK (AV.plain (.lst a n t1 l1))
   (ifK (cz (rt b m (midV lo hi)) (lt b m (midV lo hi)) a n false) (byB (leI (sz (rt b m (midV lo hi)) (lt b m (midV lo hi)) a n) 0)
    (L139 ct rt lt cz sz M Tryz.prog N (tHal a n t1 l1 b m t2 l2 (midV lo hi) hi) ⟨0, .nil⟩) (L139 ct rt lt cz sz M Tryz.prog N (tHal a n t1 l1 b m t2 l2 lo (midV lo hi)) ⟨0, .nil⟩)))))))
   (some (.int .u32 lo)) := by kernel_rfl
end
end Go.Am.Sto
end
section
namespace Go.Am.Sto
open Go Go.Am Go.Proofs
def halI (a : List AV) (n : Nat) (b : List AV) (m : Nat) : Nat → Int → Int → Int
 | 0, lo, _ => lo
 | k + 1, lo, hi => bif leI (hi - lo) 1 then lo else bif leI (szS (timR b m (lo + (hi - lo) / 2)) (timL b m (lo + (hi - lo) / 2)) a n) 0 then halI a n b m k (lo + (hi - lo) / 2) hi else halI a n b m k lo (lo + (hi - lo) / 2)
theorem halI_range (a : List AV) (n : Nat) (b : List AV) (m : Nat) : ∀ (k : Nat) (lo hi : Int), 0 ≤ lo → lo < hi → hi ≤ 1000000000 → 0 ≤ halI a n b m k lo hi ∧ halI a n b m k lo hi < 1000000000
 | 0, lo, hi, h0, h1, h2 => ⟨h0, by show lo < _; omega⟩
 | k + 1, lo, hi, h0, h1, h2 => by
  unfold halI
  by_cases h : hi - lo ≤ 1
  ·rw [leI_t h]; exact ⟨h0, by show lo < _; omega⟩
  ·rw [leI_f (by omega)]
   show 0 ≤ (bif leI _ 0 then _ else _) ∧ (bif leI _ 0 then _ else _) < _
   cases leI (szS (timR b m (lo + (hi - lo) / 2)) (timL b m (lo + (hi - lo) / 2)) a n) 0 with
   | true => exact halI_range a n b m k _ _ (by omega) (by omega) h2
   | false => exact halI_range a n b m k _ _ h0 (by omega) (by omega)
theorem main139 (M : Nat) {a : List AV} {n : Nat} {b : List AV} {m : Nat} (t1 l1 t2 l2 : Bool) (ha : lim3 n a = true) (hb : ∀ q : Int, 0 ≤ q → q < 1000000000 → timG b m q = true) : ∀ (k N : Nat) (lo hi : Int), k < N → 0 ≤ lo → lo < hi → hi ≤ 1000000000 → hi - lo ≤ 2 ^ k →
  L139 timG timR timL cpS szS M Tryz.prog N (tHal a n t1 l1 b m t2 l2 lo hi) ⟨0, .nil⟩ = some (.int .u32 (halI a n b m k lo hi)) := by
 intro k
 induction k with
 | zero =>
  intro N lo hi hN h0 h1 h2 h3
  obtain ⟨N, rfl⟩ : ∃ X, N = X + 1 := ⟨N - 1, by omega⟩
  rw [step139]
  have hd : hi - lo ≤ 1 := by simpa using h3
  exact byB_f (by rw [show W32 (hi - lo) = hi - lo from w32 (by omega) (by omega), leI_t hd]; rfl) _ _
 | succ k ih =>
  intro N lo hi hN h0 h1 h2 h3
  obtain ⟨N, rfl⟩ : ∃ X, N = X + 1 := ⟨N - 1, by omega⟩
  rw [step139]
  have hw : W32 (hi - lo) = hi - lo := w32 (by omega) (by omega)
  have hmid : midV lo hi = lo + (hi - lo) / 2 := by
   unfold midV
   rw [hw, show (hi - lo).tdiv 2 = (hi - lo) / 2 from Int.tdiv_eq_ediv_of_nonneg (by omega), show W32 ((hi - lo) / 2) = (hi - lo) / 2 from w32 (by omega) (by omega)]
   exact w32 (by omega) (by omega)
  rw [hmid, hw]
  unfold halI
  by_cases h : hi - lo ≤ 1
  ·rw [leI_t h]; rfl
  ·rw [leI_f (show 1 < hi - lo by omega)]
   have hq := hb (lo + (hi - lo) / 2) (by omega) (by omega)
   have hl := (tim_ok hq).1
   generalize hmm : lo + (hi - lo) / 2 = mid at *
   have h4 : (2 : Int) ^ (k + 1) = 2 ^ k * 2 := Int.pow_succ 2 k
   have hpb : AV.plain (.lst b m t2 l2) = true := by
    unfold timG at hq
    rw [Bool.and_eq_true] at hq
    have := hq.1
    unfold lim3 at this
    rw [Bool.and_eq_true] at this
    exact limbsOk_plains this.2
   have hpa : AV.plain (.lst a n t1 l1) = true := by
    have := ha
    unfold lim3 at this
    rw [Bool.and_eq_true] at this
    exact limbsOk_plains this.2
   have hpr : AV.plain (.lst (timR b m mid) (timL b m mid) false false) = true := by
    have := hl
    unfold lim3 at this
    rw [Bool.and_eq_true] at this
    exact limbsOk_plains this.2
   refine (byB_t rfl _ _).trans ?_
   refine (ifK_t hpb _).trans ?_
   refine (ifK_t hq _).trans ?_
   refine (ifK_t hpr _).trans ?_
   refine (ifK_t hpa _).trans ?_
   refine (ifK_t (by unfold cpS; rw [hl, ha]; rfl) _).trans ?_
   show byB _ _ _ = some (AV.int .u32 (bif leI _ 0 then _ else _))
   cases leI (szS (timR b m mid) (timL b m mid) a n) 0 with
   | true => exact ih N mid hi (by omega) (by omega) (by omega) h2 (by omega)
   | false => exact ih N lo mid (by omega) h0 (by omega) (by omega) (by omega)
def halQ (a : List AV) (n : Nat) (b : List AV) (m : Nat) : Int := halI a n b m 30 0 1000000000
theorem halQ_range (a : List AV) (n : Nat) (b : List AV) (m : Nat) : 0 ≤ halQ a n b m ∧ halQ a n b m < 1000000000 := halI_range a n b m 30 0 1000000000 (by omega) (by omega) (by omega)
def halG (a : List AV) (n : Nat) (b : List AV) (m : Nat) : Bool := lim3 n a && (lim3 m b && (Nat.ble 1 m && Nat.ble m 2))
section
variable (ch : List AV → Nat → List AV → Nat → Bool) (qh : List AV → Nat → List AV → Nat → Int)
def F139v : List AV → Option (Bool × AV)
 | [.lst a n _ _, .lst b m _ _] => some (ch a n b m, .int .u32 (qh a n b m))
 | _ => none
end
theorem kX139 : KnownOk Tryz.prog G0 (X139 timG timR timL cpS szS) := ((KnownOk.none _ _).add k140).add k134v
theorem kY139 {β : Type} : KnownKOk (X139 timG timR timL cpS szS) (Y139 timG timR timL cpS szS : KnownK β) := addH' (addH' (KnownKOk.none _) 140 (zK_le _)) 134 (zK_le _)
theorem k139 : ZOk Tryz.prog G0 139 (F139v halG halQ) := z_known (D := D139) (m := 40) (loops := 0) (n := 5) hm hn G0_plain kX139 kY139 fun ar x hF => by
 unfold F139v at hF
 split at hF
 case h_2 => cases hF
 rename_i a n t1 l1 b m t2 l2
 simp only [Option.some.injEq, Prod.mk.injEq] at hF
 obtain ⟨h1, rfl⟩ := hF
 unfold halG at h1
 simp only [Bool.and_eq_true] at h1
 obtain ⟨h1, h2, h3, h4⟩ := h1
 show b139 timG timR timL cpS szS 40 Tryz.prog a n t1 l1 b m t2 l2 = _
 rw [s139]
 exact main139 40 t1 l1 t2 l2 h1 (fun q q0 q1 => by unfold timG; rw [h2, h3, h4, isLimb_of q0 q1]; rfl) 30 40 0 1000000000 (by omega) (by omega) (by omega) (by omega) (by decide)
end Go.Am.Sto
end
section
namespace Go.Am.Sto
open Go Go.Am Go.Proofs
section
variable (a0 a1 b0 b1 b2 : Int) (t1 t2 l2 : Bool)
theorem p135_1_2 : b135 t1 t2 l2 Tryz.prog [a0] [b0, b1] 1 2 = minusT [a0] [b0, b1] 0 0 [] := by unfold b135; kernel_rfl
theorem p135_1_3 : b135 t1 t2 l2 Tryz.prog [a0] [b0, b1, b2] 1 3 = minusT [a0] [b0, b1, b2] 0 0 [] := by unfold b135; kernel_rfl
theorem p135_2_3 : b135 t1 t2 l2 Tryz.prog [a0, a1] [b0, b1, b2] 2 3 = minusT [a0, a1] [b0, b1, b2] 0 0 [] := by unfold b135; kernel_rfl
def b135z (P : Program) (b : List AV) (m : Nat) : Option AV := bodyY P G0 .none (.none : KnownK AV) 0 5 noLive Res.fresh0? 40 P.funcs[135]? [.lst [] 0 t1 false, .lst b m t2 l2] St.empty
theorem p135_0 (b : List AV) (m : Nat) : b135z t1 t2 l2 Tryz.prog b m = some (.lst [] 0 true false) := by kernel_rfl
end
def minI (a b : List AV) (i : Nat) : Int := match (minusR (ints a) (ints b)).cs[i]? with | some (.int .u32 z) => z | _ => 0
def minG (a : List AV) (n : Nat) (b : List AV) (m : Nat) (nl : Bool) : Bool := lim3 n a && (lim3 m b && !nl)
section
variable (cm : List AV → Nat → List AV → Nat → Bool → Bool) (gm : List AV → List AV → Nat → Int)
def F135w : List AV → Option (Bool × NewRow)
 | [.lst a n _ nl, .lst b m _ _] => match n with
  | 1 => some (cm a 1 b m nl, ⟨[.int .u32 (gm a b 0)], 1, 1, 75⟩)
  | 2 => some (cm a 2 b m nl, ⟨[.int .u32 (gm a b 0), .int .u32 (gm a b 1)], 2, 1, 75⟩)
  | _ => none
 | _ => none
def F135z : List AV → Option (Bool × AV)
 | [.lst [] 0 _ false, .lst _ _ _ _] => some (true, .lst [] 0 true false)
 | _ => none
def X135 (args : List AV) (s : St) : Res := match args with
 | [.lst _ 0 _ _, _] => zX F135z args s
 | [.sl _ _ 0 _ _, _] => zX F135z args s
 | args => rowX (F135w cm gm) args s
def K135 {β : Type} (args : List AV) (s : St) (kr : Res → Option β) : Option β := match args with
 | [.lst _ 0 _ _, _] => zK F135z args s kr
 | [.sl _ _ 0 _ _, _] => zK F135z args s kr
 | args => rowK (F135w cm gm) args s kr
theorem K135_le {β : Type} (args : List AV) (s : St) (kr kr' : Res → Option β) (h : ∀ r, Le (kr r) (kr' r)) : Le (K135 cm gm args s kr) (kr' (X135 cm gm args s)) := by
 unfold K135 X135
 split
 ·exact zK_le _ _ _ _ _ h
 ·exact zK_le _ _ _ _ _ h
 ·exact rowK_le _ _ _ _ _ h
end
theorem k135z : ZOk Tryz.prog G0 135 F135z := z_known (D := noLive) (m := 40) (loops := 0) (n := 5) hm hn G0_plain (KnownOk.none _ _) (KnownKOk.none _) fun ar x hF => by
 unfold F135z at hF
 split at hF
 case h_2 => cases hF
 rename_i t1 b m t2 l2
 simp only [Option.some.injEq, Prod.mk.injEq] at hF
 obtain ⟨_, rfl⟩ := hF
 exact p135_0 t1 t2 l2 b m
theorem minR_ok {a b : List Int} (ha : lims a) (hb : lims b) : ∃ cs, minusT a b 0 0 [] = some ⟨cs, a.length, 1, 75⟩ ∧ (minusR a b).cs = cs ∧ cs.length = a.length ∧ cs.all isLimb = true := by
 obtain ⟨cs, e1, e2, e3, e4⟩ := minusR_ok ha hb
 exact ⟨cs, e1, by rw [e2], e3, e4⟩
theorem minI_is {a b : List AV} {cs : List AV} (h : (minusR (ints a) (ints b)).cs = cs) (hl : cs.all isLimb = true) {i : Nat} (hi : i < cs.length) : cs[i]? = some (.int .u32 (minI a b i)) ∧ 0 ≤ minI a b i ∧ minI a b i < 1000000000 := by
 obtain ⟨z, e, h0, h1⟩ := all_get hl hi
 unfold minI
 rw [h, e]
 exact ⟨rfl, h0, h1⟩
theorem k135w : RowOk Tryz.prog G0 135 (F135w minG minI) := row_known (D := noLive) (m := 40) (loops := 0) (n := 5) hm hn G0_plain (KnownOk.none _ _) (KnownKOk.none _) fun ar x hF => by
 unfold F135w at hF
 split at hF
 case h_2 => cases hF
 rename_i a n t1 nl b m t2 l2
 have main : ∀ k, n = k → 1 ≤ k → k ≤ 2 → minG a k b m nl = true → (∀ cs, (minusR (ints a) (ints b)).cs = cs → cs.length = k → cs.all isLimb = true → x = ⟨cs, k, 1, 75⟩) → bodyY Tryz.prog G0 .none (.none : KnownK NewRow) 0 5 noLive Res.row? 40 Tryz.prog.funcs[135]? [.lst a n t1 nl, .lst b m t2 l2] St.empty = some x := by
  intro k hk hk1 hk2 h1 hx
  subst hk
  unfold minG at h1
  simp only [Bool.and_eq_true, Bool.not_eq_true'] at h1
  obtain ⟨h1, h2, rfl⟩ := h1
  obtain ⟨la, rfl, ha, _, e1, hla⟩ := lim3_is h1
  obtain ⟨lb, rfl, hb, hm3, e2, hlb⟩ := lim3_is h2
  obtain ⟨cs, q1, q2, q3, q4⟩ := minR_ok hla hlb
  rw [e1, e2] at hx
  rw [hx cs q2 (by rw [q3, ha]) q4, ← ha, ← q1, ha]
  show b135 t1 t2 l2 Tryz.prog la lb n m = _
  match la, ha, lb, hb with
  | [], ha, _, _ => simp only [List.length_nil] at ha; omega
  | [a0], ha, [], hb => cases ha; cases hb; exact (p135_1_0 a0 t1 t2 l2)
  | [a0], ha, [b0], hb => cases ha; cases hb; exact (p135_1_1 a0 b0 t1 t2 l2)
  | [a0], ha, [b0, b1], hb => cases ha; cases hb; exact (p135_1_2 a0 b0 b1 t1 t2 l2)
  | [a0], ha, [b0, b1, b2], hb => cases ha; cases hb; exact (p135_1_3 a0 b0 b1 b2 t1 t2 l2)
  | [a0, a1], ha, [], hb => cases ha; cases hb; exact (p135_2_0 a0 a1 t1 t2 l2)
  | [a0, a1], ha, [b0], hb => cases ha; cases hb; exact (p135_2_1 a0 a1 b0 t1 t2 l2)
  | [a0, a1], ha, [b0, b1], hb => cases ha; cases hb; exact (p135_2_2 a0 a1 b0 b1 t1 t2 l2)
  | [a0, a1], ha, [b0, b1, b2], hb => cases ha; cases hb; exact (p135_2_3 a0 a1 b0 b1 b2 t1 t2 l2)
  | _, _, _ :: _ :: _ :: _ :: _, hb => simp only [List.length_cons] at hb; omega
  | _ :: _ :: _ :: _, ha, _, _ => simp only [List.length_cons] at ha; omega
 split at hF
 ·simp only [Option.some.injEq, Prod.mk.injEq] at hF
  obtain ⟨h1, rfl⟩ := hF
  refine main 1 rfl (by omega) (by omega) h1 fun cs hc hl hall => ?_
  obtain ⟨e, _⟩ := minI_is hc hall (i := 0) (by omega)
  match cs, hl with
  | [c], _ => cases e; rfl
 ·simp only [Option.some.injEq, Prod.mk.injEq] at hF
  obtain ⟨h1, rfl⟩ := hF
  refine main 2 rfl (by omega) (by omega) h1 fun cs hc hl hall => ?_
  obtain ⟨e, _⟩ := minI_is hc hall (i := 0) (by omega)
  obtain ⟨e2, _⟩ := minI_is hc hall (i := 1) (by omega)
  match cs, hl with
  | [c, d], _ => cases e; cases e2; rfl
 ·cases hF
theorem kX135 : ∀ (args : List AV) (s : St) (E : Env) (w : World) (vs : List Value), Rel E s w → GlobOk E G0 w → VRL E args vs → ResOk Tryz.prog E s w 135 vs (X135 minG minI args s) := by
 intro args s E w vs h hG ha
 unfold X135
 split
 ·exact k135z _ _ _ _ _ h hG ha
 ·exact k135z _ _ _ _ _ h hG ha
 ·exact k135w _ _ _ _ _ h hG ha
/-! ## Cut, with branches -/
def byTrim {β : Type} (cs : List AV) (k : Nat → Option β) : Nat → Option β
 | 0 => k 0
 | n + 1 => match cs[n]? with
  | some (.int .u32 z) => byB (eqI z 0) (byTrim cs k n) (k (n + 1))
  | _ => none
theorem byTrim_eq {β : Type} {cs : List AV} {k : Nat → Option β} {x : β} : ∀ {n : Nat}, byTrim cs k n = some x → k (trimA cs n) = some x
 | 0, h => h
 | n + 1, h => by
  unfold byTrim at h
  unfold trimA
  split at h
  ·rename_i z hz
   simp only [hz]
   cases hb : eqI z 0 with
   | true => rw [hb] at h; exact byTrim_eq h
   | false => rw [hb] at h; exact h
  ·cases h
def cutBK {β : Type} (args : List AV) (s : St) (kr : Res → Option β) : Option β := match args with
 | [.sl r off n 1 t] => match rowAt s r with
  | some o => match cutN n off o.vals with
   | some cs => ifK (cutC n cs) (byTrim cs (fun k => kr (.ret (.sl r off k 1 (t && Nat.beq k n)) s)) n)
   | none => none
  | none => none
 | [.lst [] 0 t nl] => kr (.ret (.lst [] 0 t nl) s)
 | _ => none
theorem cutBK_le {β : Type} (args : List AV) (s : St) (kr kr' : Res → Option β) (h : ∀ r, Le (kr r) (kr' r)) : Le (cutBK args s kr) (kr' (cutX args s)) := by
 intro x hx
 refine cutK_le args s kr kr' h x ?_
 unfold cutBK at hx
 unfold cutK
 split at hx
 ·rename_i r off n t
  split at hx
  ·rename_i o ho
   split at hx
   ·rename_i cs hcs
    obtain ⟨hc, hx⟩ := ifK_some hx
    simp only [ho, hcs]
    show ifK (cutC n cs) _ = some x
    rw [hc]
    exact byTrim_eq (k := fun k => kr (.ret (.sl r off k 1 (t && Nat.beq k n)) s)) hx
   ·cases hx
  ·cases hx
 ·exact hx
 ·cases hx
end Go.Am.Sto
end
section
set_option linter.unusedVariables false
set_option linter.unusedSimpArgs false
namespace Go.Proofs
open Go.Shelf Go.RowKit Go.Lib
theorem insMixed : Tryz.prog.follows .mixedOrders = true := by kernel_rfl
theorem insInfo : (Tryz.prog.info? 75).map (fun i => (i.zero, i.size, i.bytes)) = some (some (Value.int .u32 0), 1, 4) := by kernel_rfl
set_option maxHeartbeats 4000000 in
set_option maxRecDepth 100000 in
theorem Tryz.slices_Insert_shift (b off n c i vb voff m vc : Nat) (cs vs : List Value) (w : World) (hi : i < n) (hm : 0 < m) (hroom : n + m ≤ c) (hc63 : n + m ≤ 9223372036854775807) (hvb : vb ≠ b)
  (hcl : cs.length = n) (hvl : vs.length = m)
  (hcs : ∀ j v, cs[j]? = some v → w.cell? ⟨b, off + j, none⟩ = some v) (hsp : ∀ j, j < n + m → (w.cell? ⟨b, off + j, none⟩).isSome = true) (hfz : ∀ j, j < n + m → w.frozen? ⟨b, off + j, none⟩ = false)
  (hvs : ∀ j v, vs[j]? = some v → w.cell? ⟨vb, voff + j, none⟩ = some v) (h1c : ∀ v ∈ cs, v.oneCell' = true) (h1v : ∀ v ∈ vs, v.oneCell' = true)
  (tA tB : TypeId) (kA kB : Nat) (hsa : w.shape? vb = some (tA, kA)) (hsb : w.shape? b = some (tB, kB)) (hkB : kB ≠ 0) (hfa : w.frozen? ⟨vb, voff, none⟩ = false) (hfe : w.frozen? ⟨vb, kA, none⟩ = false) :
  Calls Tryz.prog 138 #[.slice (some ⟨b, off, none⟩) n c, .int .i64 i, .slice (some ⟨vb, voff, none⟩) m vc] w fun e w' =>
   e = .returned (.slice (some ⟨b, off, none⟩) (n + m) c) ∧ w' = (w.drew.setCells b (off + (i + m)) (cs.drop i)).setCells b (off + i) vs := by
 have t0 := Tryz.underlying0; have a0 := Tryz.isAgg0; have z0 := Tryz.sizeOf0; have v0 := Tryz.zeroValue0; have t3 := Tryz.underlying3; have a3 := Tryz.isAgg3; have z3 := Tryz.sizeOf3; have v3 := Tryz.zeroValue3; have t4 := Tryz.underlying4; have a4 := Tryz.isAgg4; have z4 := Tryz.sizeOf4; have v4 := Tryz.zeroValue4; have t75 := Tryz.underlying75; have a75 := Tryz.isAgg75; have z75 := Tryz.sizeOf75; have v75 := Tryz.zeroValue75; have t45 := Tryz.underlying45; have a45 := Tryz.isAgg45; have z45 := Tryz.sizeOf45; have v45 := Tryz.zeroValue45
 have u0 := run_underlying Tryz.underlying0; have u3 := run_underlying Tryz.underlying3; have u4 := run_underlying Tryz.underlying4; have u75 := run_underlying Tryz.underlying75; have u45 := run_underlying Tryz.underlying45
 have hz1 : ¬ ((m : Int) = 0) := by omega
 have hz2 : ¬ ((i : Int) = (n : Int)) := by omega
 have hsz : (Tryz.prog.info? 75).map (·.size) = some 1 := by
  obtain ⟨i0, hi0, h0, h1, h2⟩ := info_parts insInfo
  rw [hi0]; simp [h1]
 have hov : ∀ lb cb, (callFunc 179 #[.slice (some ⟨vb, voff, none⟩) m vc, .slice (some ⟨b, off + (i + m), none⟩) lb cb]).run Tryz.prog w = .ok (.value (.bool false)) w := fun lb cb => by
  rw [run_callFunc_extern Tryz.func179 (by kernel_rfl) (by kernel_rfl) (by kernel_rfl) (e := Extern.SlicesOverlaps.overlaps #[45, 45] #[4]) (by kernel_rfl),
   Lib.run_overlaps_apart w 45 4 75 Tryz.underlying45 1 Tryz.sizeOf75 ⟨vb, voff, none⟩ ⟨b, off + (i + m), none⟩ m vc lb cb hvb tA tB kA kB hsa hsb hkB hfa hfe]
  rfl
 have hdl : (cs.drop i).length = n - i := by rw [List.length_drop, hcl]
 have mixed := insMixed
 have hw1 : IntKind.i64.wrap ((i : Int) + (m : Int)) = (i : Int) + (m : Int) := by rw [IntKind.wrap_i64]; omega
 have hb1 : (0 : Int) ≤ (i : Int) + (m : Int) := by omega
 have hin : i ≤ n := by omega
 have htn : ((i : Int) + (m : Int)).toNat = i + m := by omega
 have hb2 : ¬ (c = i + m) := by omega
 have hb3 : (i : Int) ≤ (n : Int) + (m : Int) := by omega
 have hb4 : ¬ (c = i) := by omega
 have hcp1 : ∀ ty dc sc, (Builtin.copy_ #[45, 45] ty #[.slice (some ⟨b, off + (i + m), none⟩) (n + m - (i + m)) dc, .slice (some ⟨b, off + i, none⟩) (n + m - i) sc]).run Tryz.prog w.drew = .ok (goInt (cs.drop i).length) (w.drew.setCells b (off + (i + m)) (cs.drop i)) := fun ty dc sc =>
  run_copy_cells w.drew _ _ ty 75 b (off + (i + m)) (n + m - (i + m)) dc ⟨b, off + i, none⟩ (n + m - i) sc (cs.drop i) Tryz.underlying45 hsz (by rw [hdl]; simp only [Nat.min_def]; split <;> omega)
   (fun j v hj => by rw [Addr.add_lit, Nat.add_assoc]; exact hcs (i + j) v (by rwa [List.getElem?_drop] at hj))
   (fun j hj => by rw [Nat.add_assoc]; exact hsp _ (by omega)) (fun j hj => by rw [Nat.add_assoc]; exact hfz _ (by omega)) (fun v hv => h1c v (List.mem_of_mem_drop hv))
 obtain ⟨W1, hW1⟩ : ∃ W1, W1 = w.drew.setCells b (off + (i + m)) (cs.drop i) := ⟨_, rfl⟩
 have hsp1 : ∀ k, k < n + m → (W1.cell? ⟨b, off + k, none⟩).isSome = true := fun k hk => by
  rw [hW1]
  exact isSome_setCells b _ _ _ (fun j hj => by rw [Nat.add_assoc]; exact hsp _ (by omega)) _ (hsp k hk)
 have hcp2 : ∀ (W : World), (∀ x, W.cell? x = W1.cell? x) → (∀ x, W.frozen? x = W1.frozen? x) → ∀ ty dc, (Builtin.copy_ #[45, 45] ty #[.slice (some ⟨b, off + i, none⟩) (n + m - i) dc, .slice (some ⟨vb, voff, none⟩) m vc]).run Tryz.prog W = .ok (goInt vs.length) (W.setCells b (off + i) vs) := fun W hWc hWf ty dc =>
  run_copy_cells W _ _ ty 75 b (off + i) (n + m - i) dc ⟨vb, voff, none⟩ m vc vs Tryz.underlying45 hsz (by rw [hvl]; simp only [Nat.min_def]; split <;> omega)
   (fun j v hj => by
    rw [Addr.add_lit, hWc, hW1, World.cell?_setCells_out b _ _ _ _ (fun h _ => absurd h hvb)]
    exact hvs j v hj)
   (fun j hj => by rw [hWc, Nat.add_assoc]; exact hsp1 _ (by omega)) (fun j hj => by rw [hWf, hW1, World.frozen?_setCells, Nat.add_assoc]; exact hfz _ (by omega)) h1v
 rw [← hW1] at hcp1
 go_enter Tryz.func138, Tryz.ntmps138
 go_wp2_with (simp only [hov])
 go_region_law_o (refine step_copy_runI rfl _ _ 45 45 rfl _ _ (by simp [Act.eval, Act.put]) (by simp [Act.eval, Act.put]) (hcp1 _ _ _) ?_)
 go_wp2_with (at_builtin; refine wpList_copy_runI _ rfl _ _ 45 45 rfl _ _ rfl rfl (hcp2 _ (fun _ => rfl) (fun _ => rfl) _ _) ?_)
 go_ret
 first | exact ⟨rfl, rfl⟩ | exact ⟨rfl, by rw [hW1]⟩
set_option maxHeartbeats 4000000 in
set_option maxRecDepth 100000 in
theorem Tryz.slices_Insert_grow (b off n c i vb voff m vc : Nat) (cs vs : List Value) (w : World) (hi : i < n) (hm : 0 < m) (hnc : n ≤ c) (hroom : c < n + m) (hbig : (n + m) * 4 ≤ 140737488355328)
  (hcl : cs.length = n) (hvl : vs.length = m)
  (hcs : ∀ j v, cs[j]? = some v → w.cell? ⟨b, off + j, none⟩ = some v)
  (hvs : ∀ j v, vs[j]? = some v → w.cell? ⟨vb, voff + j, none⟩ = some v) (h1c : ∀ v ∈ cs, v.oneCell' = true) (h1v : ∀ v ∈ vs, v.oneCell' = true) :
  Calls Tryz.prog 138 #[.slice (some ⟨b, off, none⟩) n c, .int .i64 i, .slice (some ⟨vb, voff, none⟩) m vc] w fun e w' =>
   e = .returned (.slice (some ⟨w.heap.size, 0, none⟩) (n + m) (grownCap w (n + m) c 75)) ∧
   w' = (((w.alloc (.cells ((cs.take i).toArray ++ Builtin.zeroCells (Value.int .u32 0).cells (n + m - i) ++ Builtin.zeroCells (Value.int .u32 0).cells (grownCap w (n + m) c 75 - (n + m))) 75)).drew.setCells w.heap.size i vs).drew).setCells w.heap.size (i + m) (cs.drop i) := by
 have t0 := Tryz.underlying0; have a0 := Tryz.isAgg0; have z0 := Tryz.sizeOf0; have v0 := Tryz.zeroValue0; have t3 := Tryz.underlying3; have a3 := Tryz.isAgg3; have z3 := Tryz.sizeOf3; have v3 := Tryz.zeroValue3; have t4 := Tryz.underlying4; have a4 := Tryz.isAgg4; have z4 := Tryz.sizeOf4; have v4 := Tryz.zeroValue4; have t75 := Tryz.underlying75; have a75 := Tryz.isAgg75; have z75 := Tryz.sizeOf75; have v75 := Tryz.zeroValue75; have t45 := Tryz.underlying45; have a45 := Tryz.isAgg45; have z45 := Tryz.sizeOf45; have v45 := Tryz.zeroValue45
 have u0 := run_underlying Tryz.underlying0; have u3 := run_underlying Tryz.underlying3; have u4 := run_underlying Tryz.underlying4; have u75 := run_underlying Tryz.underlying75; have u45 := run_underlying Tryz.underlying45
 have mixed := insMixed
 obtain ⟨i0, hi0, hz0, hzs, hzb⟩ := info_parts insInfo
 have hz1 : ¬ ((m : Int) = 0) := by omega
 have hz2 : ¬ ((i : Int) = (n : Int)) := by omega
 have hz3 : (c : Int) < (n : Int) + (m : Int) := by omega
 have hsz : (Tryz.prog.info? 75).map (·.size) = some 1 := by rw [hi0]; simp [hzs]
 have hbw : b < w.heap.size := block_lt_of_cell (hcs 0 _ (List.getElem?_eq_getElem (by omega)))
 have hvw : vb < w.heap.size := block_lt_of_cell (hvs 0 _ (List.getElem?_eq_getElem (by omega)))
 have hkk : (n : Int) + (m : Int) - (i : Int) = ((n + m - i : Nat) : Int) := by omega
 have hik : i + (n + m - i) = n + m := by omega
 have hold : (Builtin.firstCells i0.size i (.slice (some ⟨b, off, none⟩) i c)).run Tryz.prog w.drew = .ok (cs.take i).toArray w.drew := by
  rw [hzs]
  exact run_firstCells_some w.drew 1 i ⟨b, off, none⟩ i c (cs.take i) (by rw [List.length_take]; omega) (fun j v hj => by
   rw [Addr.add_lit]
   rw [List.getElem?_take] at hj
   split at hj
   ·exact hcs j v hj
   ·cases hj)
 have hrz : ∀ ty, (Builtin.append_ #[45, 3] ty #[.slice (some ⟨b, off, none⟩) i c, .int .i64 ((n : Int) + (m : Int) - (i : Int))]).run Tryz.prog w =
   .ok (.slice (some ⟨w.heap.size, 0, none⟩) (n + m) (grownCap w (n + m) c 75)) (w.drew.alloc (.cells ((cs.take i).toArray ++ Builtin.zeroCells (Value.int .u32 0).cells (n + m - i) ++ Builtin.zeroCells (Value.int .u32 0).cells (grownCap w (n + m) c 75 - (n + m))) 75)) := fun ty => by
  have h := Lib.run_append_grow_zeros w 45 3 ty 75 i0 _ .i64 .i64 Tryz.underlying45 Tryz.underlying3 hi0 hz0 (some ⟨b, off, none⟩) i c (cs.take i) hold (n + m - i) (by omega) (by omega) (by omega) (by omega) (by rw [hzb]; omega) (by rw [hzb, hik]; exact growslice_fits hroom hbig)
  rw [hik] at h
  rw [hkk]
  exact h
 obtain ⟨G, hG⟩ : ∃ G, G = grownCap w (n + m) c 75 := ⟨_, rfl⟩
 obtain ⟨ROW, hROW⟩ : ∃ ROW : Array Value, ROW = (cs.take i).toArray ++ Builtin.zeroCells (Value.int .u32 0).cells (n + m - i) ++ Builtin.zeroCells (Value.int .u32 0).cells (G - (n + m)) := ⟨_, rfl⟩
 rw [← hG] at hrz ⊢
 rw [← hROW] at hrz ⊢
 have hRl : n + m ≤ ROW.size := by
  rw [hROW]
  simp [Builtin.zeroCells, Value.cells]
  omega
 obtain ⟨W1, hW1⟩ : ∃ W1, W1 = w.drew.alloc (.cells ROW 75) := ⟨_, rfl⟩
 rw [← hW1] at hrz
 have hN : ∀ j, j < n + m → (W1.cell? ⟨w.heap.size, j, none⟩).isSome = true := fun j hj => by
  rw [hW1, World.cell?_alloc_at (w := w.drew) ROW _ w.heap.size j rfl, Array.getElem?_eq_getElem (by omega)]; rfl
 have hNf : ∀ j, W1.frozen? ⟨w.heap.size, j, none⟩ = false := fun j => by rw [hW1]; exact World.frozen?_alloc_at (w := w.drew) ROW _ w.heap.size j rfl
 have hOb : ∀ j v, w.cell? ⟨b, j, none⟩ = some v → W1.cell? ⟨b, j, none⟩ = some v := fun j v h => by rw [hW1, World.cell?_alloc_past (w := w.drew) _ b j hbw]; exact h
 have hOv : ∀ j v, w.cell? ⟨vb, j, none⟩ = some v → W1.cell? ⟨vb, j, none⟩ = some v := fun j v h => by rw [hW1, World.cell?_alloc_past (w := w.drew) _ vb j hvw]; exact h
 have hcpA : ∀ (W : World), (∀ x, W.cell? x = W1.cell? x) → (∀ x, W.frozen? x = W1.frozen? x) → ∀ ty dc, (Builtin.copy_ #[45, 45] ty #[.slice (some ⟨w.heap.size, i, none⟩) (n + m - i) dc, .slice (some ⟨vb, voff, none⟩) m vc]).run Tryz.prog W = .ok (goInt vs.length) (W.setCells w.heap.size i vs) := fun W hWc hWf ty dc =>
  run_copy_cells W _ _ ty 75 w.heap.size i (n + m - i) dc ⟨vb, voff, none⟩ m vc vs Tryz.underlying45 hsz (by rw [hvl]; simp only [Nat.min_def]; split <;> omega)
   (fun j v hj => by rw [Addr.add_lit, hWc]; exact hOv _ v (hvs j v hj))
   (fun j hj => by rw [hWc]; exact hN _ (by omega)) (fun j hj => by rw [hWf]; exact hNf _) h1v
 have hGn : n + m ≤ G := by rw [hG]; exact grownCap_ge w _ _ _
 have hG63 : G ≤ 9223372036854775807 := by
  have := grownCap_le_maxLen w (n + m) c 75 (by unfold maxLen; omega)
  rw [← hG] at this
  unfold maxLen at this
  omega
 have hGi : ¬ (G = i) := by omega
 have hGim : ¬ (G = i + m) := by omega
 have hci : ¬ (c = i) := by omega
 have hbN : b ≠ w.heap.size := by omega
 have hdl : (cs.drop i).length = n - i := by rw [List.length_drop, hcl]
 have hcpB : ∀ (W : World), (∀ x, W.cell? x = (W1.setCells w.heap.size i vs).cell? x) → (∀ x, W.frozen? x = (W1.setCells w.heap.size i vs).frozen? x) → ∀ ty dc sc, (Builtin.copy_ #[45, 45] ty #[.slice (some ⟨w.heap.size, i + m, none⟩) (n + m - (i + m)) dc, .slice (some ⟨b, off + i, none⟩) (n - i) sc]).run Tryz.prog W = .ok (goInt (cs.drop i).length) (W.setCells w.heap.size (i + m) (cs.drop i)) := fun W hWc hWf ty dc sc =>
  run_copy_cells W _ _ ty 75 w.heap.size (i + m) (n + m - (i + m)) dc ⟨b, off + i, none⟩ (n - i) sc (cs.drop i) Tryz.underlying45 hsz (by rw [hdl]; simp only [Nat.min_def]; split <;> omega)
   (fun j v hj => by
    rw [Addr.add_lit, hWc, World.cell?_setCells_out _ _ _ _ _ (fun h _ => absurd h hbN), Nat.add_assoc]
    exact hOb _ v (hcs (i + j) v (by rwa [List.getElem?_drop] at hj)))
   (fun j hj => by rw [hWc]; exact isSome_setCells _ _ _ _ (fun t ht => hN _ (by omega)) _ (hN _ (by omega)))
   (fun j hj => by rw [hWf, World.frozen?_setCells]; exact hNf _) (fun v hv => h1c v (List.mem_of_mem_drop hv))
 subst hW1
 have hE1 : ∀ x, ((w.alloc (.cells ROW 75)).drew).cell? x = (w.drew.alloc (.cells ROW 75)).cell? x := fun x => rfl
 have hE2 : ∀ x, ((w.alloc (.cells ROW 75)).drew).frozen? x = (w.drew.alloc (.cells ROW 75)).frozen? x := fun x => rfl
 have hF1 : ∀ x, (((w.alloc (.cells ROW 75)).drew.setCells w.heap.size i vs).drew).cell? x = ((w.drew.alloc (.cells ROW 75)).setCells w.heap.size i vs).cell? x := fun x => rfl
 have hF2 : ∀ x, (((w.alloc (.cells ROW 75)).drew.setCells w.heap.size i vs).drew).frozen? x = ((w.drew.alloc (.cells ROW 75)).setCells w.heap.size i vs).frozen? x := fun x => rfl
 have hw1 : IntKind.i64.wrap ((i : Int) + (m : Int)) = (i : Int) + (m : Int) := by rw [IntKind.wrap_i64]; omega
 have hb1 : (0 : Int) ≤ (i : Int) + (m : Int) := by omega
 have hin : i ≤ n := by omega
 have htn : ((i : Int) + (m : Int)).toNat = i + m := by omega
 have hb3 : (i : Int) ≤ (n : Int) := by omega
 clear hkk hik hold hROW hG hRl
 go_enter Tryz.func138, Tryz.ntmps138
 go_wp2_with (first
  | (at_builtin; refine Lib.wpList_append_run _ rfl _ _ _ _ rfl _ _ rfl rfl _ _ (hrz _) ?_)
  | (at_builtin; refine wpList_copy_runI _ rfl _ _ 45 45 rfl _ _ rfl rfl (hcpA _ hE1 hE2 _ _) ?_)
  | (at_builtin; refine wpList_copy_runI _ rfl _ _ 45 45 rfl _ _ rfl rfl (hcpB _ (fun _ => rfl) (fun _ => rfl) _ _ _) ?_))
 go_region_law_o (refine step_copy_runI rfl _ _ 45 45 rfl (.slice (some ⟨w.heap.size, i + m, none⟩) (n + m - (i + m)) (G - (i + m))) (.slice (some ⟨b, off + i, none⟩) (n - i) (c - i)) (by simp [Act.eval, Act.put]) (by simp [Act.eval, Act.put]) (hcpB _ hF1 hF2 3 (G - (i + m)) (c - i)) ?_)
 go_wp2
 go_ret
 exact ⟨rfl, rfl⟩
end Go.Proofs
end
