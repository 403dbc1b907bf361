import Derived.Test.YtlibahklbbachaaGreatDoorRf48
import Derived.Test.YtlibahklbbachaaGreatDoorRf29
import Derived.Test.YtlibahklbbachaaGreatDoorRf33
import Derived.Test.YtlibahklbbachaaGreatDoorRf42
set_option autoImplicit false
set_option maxRecDepth 100000
set_option linter.unusedSimpArgs false
set_option linter.unusedVariables false
section
namespace Go.Am.Sto
open Go Go.Am Go.Proofs
section
variable {G : Option AV → Prop} {b : List AV} {m : Nat}
def dvs (b : List AV) (m : Nat) : Prop := lim3 m b = true ∧ 1 ≤ m ∧ m ≤ 2
abbrev lmb (q : Int) : Prop := 0 ≤ q ∧ q < 1000000000
theorem lims_one {x : Int} (hx : lmb x) : lims [x] := fun z hz => by rw [List.mem_singleton.1 hz]; exact hx
theorem lims_cons {x : Int} {l : List Int} (hx : lmb x) (hl : lims l) : lims (x :: l) := fun z hz => by
 rcases List.mem_cons.1 hz with rfl | hz
 ·exact hx
 ·exact hl z hz
theorem lims_nil : lims [] := fun z hz => by cases hz
theorem u32s_limb : ∀ {l : List Int}, lims l → (u32s l).all isLimb = true
 | [], _ => rfl
 | x :: l, h => by
  show (isLimb (.int .u32 x) && (u32s l).all isLimb) = true
  rw [isLimb_of (h x (by simp)).1 (h x (by simp)).2, u32s_limb (fun z hz => h z (List.mem_cons_of_mem _ hz))]; rfl
theorem u32s_len (l : List Int) : (u32s l).length = l.length := by unfold u32s; simp
theorem lim3_u32s {l : List Int} (h : lims l) (hl : l.length ≤ 3) : lim3 l.length (u32s l) = true := by
 unfold lim3
 rw [Nat.ble_eq_true_of_le hl, limbsOk_of (by omega) (u32s_len l) (u32s_limb h)]; rfl
theorem midT_good (hb : dvs b m) {cs : List AV} {n : Nat} (hc : lim3 n cs = true) {k : Int → List AV → Nat → Option AV} (hk : ∀ q r l, lmb q → lim3 l r = true → G (k q r l)) : G (midT timG timR timL halG halQ b m cs n k) := by
 obtain ⟨h1, h2, h3⟩ := hb
 have hq := halQ_range cs n b m
 have hg : halG cs n b m = true := by unfold halG; rw [hc, h1, Nat.ble_eq_true_of_le h2, Nat.ble_eq_true_of_le h3]; rfl
 have ht : timG b m (halQ cs n b m) = true := by unfold timG; rw [h1, Nat.ble_eq_true_of_le h2, Nat.ble_eq_true_of_le h3, isLimb_of hq.1 hq.2]; rfl
 have hl := (tim_ok ht).1
 unfold midT
 rw [hg]
 show G (ifK (timG b m (halQ cs n b m)) _)
 rw [ht]
 show G (ifK (AV.plain _) _)
 have hpr : AV.plain (.lst (timR b m (halQ cs n b m)) (timL b m (halQ cs n b m)) false false) = true := by
  have := hl
  unfold lim3 at this
  rw [Bool.and_eq_true] at this
  exact limbsOk_plains this.2
 rw [hpr]
 exact hk _ _ _ hq hl
theorem zeroR_good (hb : dvs b m) {k : Int → List Int → Option AV} (hk : ∀ q, lmb q → G (k q [])) : G (zeroR timG timR timL halG halQ b m k) :=
 midT_good hb (cs := []) (n := 0) rfl fun q _ _ hq _ => hk q hq
theorem min_limbs {l : List Int} (h : lims l) {r : List AV} {j : Nat} (hr : lim3 j r = true) : ∀ i, i < l.length → lmb (minI (u32s l) r i) := by
 obtain ⟨la, e1, e2, e3, e4, e5⟩ := lim3_is hr
 obtain ⟨cs, q1, q2, q3, q4⟩ := minR_ok h e5
 intro i hi
 have := minI_is (a := u32s l) (b := r) (cs := cs) (by rw [ints_u32s, e4]; exact q2) q4 (i := i) (by rw [q3]; exact hi)
 exact this.2
theorem minG_ok {l : List Int} (h : lims l) (hl : l.length ≤ 3) {r : List AV} {j : Nat} (hr : lim3 j r = true) : minG (u32s l) l.length r j false = true := by
 unfold minG; rw [lim3_u32s h hl, hr]; rfl
theorem byB_good {c : Bool} {x y : Option AV} (h1 : G x) (h2 : G y) : G (byB c x y) := by cases c <;> assumption
theorem oneR_good (hb : dvs b m) {x : Int} (hx : lmb x) {k : Int → List Int → Option AV} (hk : ∀ q r, lmb q → lims r → r.length ≤ 1 → G (k q r)) : G (oneR timG timR timL halG halQ minG minI b m x k) := by
 refine midT_good hb (cs := u32s [x]) (n := 1) (lim3_u32s (lims_one hx) (by simp)) fun q r l hq hr => ?_
 have hc : minG [.int .u32 x] 1 r l false = true := minG_ok (lims_one hx) (by simp) hr
 have h0 : lmb (minI [.int .u32 x] r 0) := min_limbs (lims_one hx) hr 0 (by simp)
 rw [hc]
 exact byB_good (hk q [] hq lims_nil (by simp)) (hk q _ hq (lims_one h0) (by simp))
theorem twoR_good (hb : dvs b m) {x y : Int} (hx : lmb x) (hy : lmb y) {k : Int → List Int → Option AV} (hk : ∀ q r, lmb q → lims r → r.length ≤ 2 → G (k q r)) : G (twoR timG timR timL halG halQ minG minI b m x y k) := by
 have hl : lims [x, y] := lims_cons hx (lims_one hy)
 refine midT_good hb (cs := u32s [x, y]) (n := 2) (lim3_u32s hl (by simp)) fun q r l hq hr => ?_
 have hc : minG [.int .u32 x, .int .u32 y] 2 r l false = true := minG_ok hl (by simp) hr
 have h0 : lmb (minI [.int .u32 x, .int .u32 y] r 0) := min_limbs hl hr 0 (by simp)
 have h1 : lmb (minI [.int .u32 x, .int .u32 y] r 1) := min_limbs hl hr 1 (by simp)
 rw [hc]
 exact byB_good (byB_good (hk q [] hq lims_nil (by simp)) (hk q _ hq (lims_one h0) (by simp))) (hk q _ hq (lims_cons h0 (lims_one h1)) (by simp))
theorem insR_good (hb : dvs b m) {rest : List Int} {x : Int} (hx : lmb x) (hr : lims rest) (hl : rest.length ≤ 1) {k : Int → List Int → Option AV} (hk : ∀ q r, lmb q → lims r → r.length ≤ rest.length + 1 → G (k q r)) : G (insR timG timR timL halG halQ minG minI b m rest x k) := by
 match rest, hr, hl with
 | [], _, _ => exact byB_good (zeroR_good hb fun q hq => hk q [] hq lims_nil (by simp)) (oneR_good hb hx fun q r h1 h2 h3 => hk q r h1 h2 h3)
 | [g], hr, _ => exact byB_good (byB_good (zeroR_good hb fun q hq => hk q [] hq lims_nil (by simp)) (oneR_good hb hx fun q r h1 h2 h3 => hk q r h1 h2 (by simp only [List.length_cons, List.length_nil]; omega))) (twoR_good hb hx (hr g (by simp)) fun q r h1 h2 h3 => hk q r h1 h2 h3)
 | _ :: _ :: _, _, hl => simp only [List.length_cons] at hl; omega
theorem byTrim_good {l : List Int} {k : Nat → Option AV} : ∀ n, n ≤ l.length → (∀ j, j ≤ n → (∀ i, j = i + 1 → ∃ z, (u32s l)[i]? = some (.int .u32 z) ∧ eqI z 0 = false) → G (k j)) → G (byTrim (u32s l) k n)
 | 0, _, h => h 0 (by omega) (fun i hi => by omega)
 | n + 1, hn, h => by
  have e : (u32s l)[n]? = some (.int .u32 l[n]) := by unfold u32s; rw [List.getElem?_map, List.getElem?_eq_getElem (by omega)]; rfl
  unfold byTrim
  rw [e]
  show G (byB (eqI l[n] 0) _ _)
  cases hb : eqI l[n] 0 with
  | true => exact byTrim_good n (by omega) fun j hj hz => h j (by omega) hz
  | false =>
   refine h (n + 1) (by omega) fun i hi => ?_
   have : i = n := by omega
   subst this
   exact ⟨_, e, hb⟩
end
theorem num_take {l : List Int} (h : lims l) (hl : l.length ≤ 2) (s : Bool) {j : Nat} (hj : j ≤ l.length) (hz : ∀ i, j = i + 1 → ∃ z, (u32s l)[i]? = some (.int .u32 z) ∧ eqI z 0 = false) : Num3 0 (s && Nat.blt 0 j) ((u32s l).take j) j false := by
 refine ⟨?_, by omega, fun z e => ?_, fun _ => rfl⟩
 ·unfold sndG
  rw [Nat.ble_eq_true_of_le (show j ≤ 64 by omega), limbsOk_of (n := j) (by omega) (by rw [List.length_take, u32s_len]; omega) (take_limbs (u32s_limb h) j)]
  cases j with
  | zero => cases s <;> rfl
  | succ i =>
   obtain ⟨z, e, hb⟩ := hz i rfl
   have : ((u32s l).take (i + 1))[i]? = some (.int .u32 z) := by rw [List.getElem?_take, if_pos (by omega), e]
   simp only [this]
   rw [hb]; rfl
 ·rw [List.getElem?_take] at e
  by_cases hj : 2 < j
  ·omega
  ·rw [if_neg hj] at e; cases e
def DivGood (x : Option AV) : Prop := ∃ g1 v k t l g2 u j t2 l2 e, x = divV g1 v k t l g2 u j t2 l2 e ∧ Num3 0 g1 v k l ∧ k ≤ 2 ∧ Num3 0 g2 u j l2 ∧ j ≤ 2 ∧ (e = 0 ∨ e = 13)
theorem endD_good {out rest : List Int} (s1 s2 : Bool) (h1 : lims out) (k1 : out.length ≤ 2) (h2 : lims rest) (k2 : rest.length ≤ 2) : DivGood (endD s1 s2 out rest) := by
 unfold endD
 refine byTrim_good out.length (by omega) fun k hk hz => ?_
 refine byTrim_good rest.length (by omega) fun j hj hy => ?_
 exact ⟨_, _, _, _, _, _, _, _, _, _, _, rfl, num_take h1 k1 s1 hk hz, by omega, num_take h2 k2 s2 hj hy, by omega, .inl rfl⟩
theorem num_zero (l : Bool) : Num3 0 false [] 0 l := ⟨rfl, by omega, fun z e => by simp at e, fun h => absurd rfl h⟩
abbrev b74s (P : Program) (ng : Bool) (a : List AV) (n : Nat) (t1 l1 : Bool) (mg : Bool) (b : List AV) (m : Nat) (t2 l2 : Bool) : Option AV := b74 sndG timG timR timL halG halQ minG minI P ng a n t1 l1 mg b m t2 l2
theorem bothD_t {b : List AV} {m : Nat} {ng : Bool} {a : List AV} {n : Nat} {mg : Bool} {i j : Int} {l1 l2 : Bool} (ha : Num3 i ng a n l1) (hb : Num3 j mg b m l2) (x : Option AV) : bothD sndG b m ng a n mg x = x := by
 unfold bothD
 rw [ha.snd, hb.snd]; rfl
section
variable (sn : Bool → List AV → Nat → Bool) (ct : List AV → Nat → Int → Bool) (rt : List AV → Nat → Int → List AV) (lt : List AV → Nat → Int → Nat) (ch : List AV → Nat → List AV → Nat → Bool) (qh : List AV → Nat → List AV → Nat → Int)
 (cm : List AV → Nat → List AV → Nat → Bool → Bool) (gm : List AV → List AV → Nat → Int) (x0 x1 y0 y1 : Int) (t1 l1 t2 l2 : Bool)
theorem e00 : ∀ ng mg : Bool, b74 sn ct rt lt ch qh cm gm Tryz.prog ng (u32s []) 0 t1 l1 mg [] 0 t2 l2 = bothD sn [] 0 ng (u32s []) 0 mg (divV false [] 0 false true false [] 0 false true 13)
 | false, false => d00ff sn ct rt lt ch qh cm gm  t1 l1 t2 l2
 | false, true => d00ft sn ct rt lt ch qh cm gm  t1 l1 t2 l2
 | true, false => d00tf sn ct rt lt ch qh cm gm  t1 l1 t2 l2
 | true, true => d00tt sn ct rt lt ch qh cm gm  t1 l1 t2 l2
theorem e01 : ∀ ng mg : Bool, b74 sn ct rt lt ch qh cm gm Tryz.prog ng [] 0 t1 l1 mg (u32s [y0]) 1 t2 l2 = bothD sn (u32s [y0]) 1 ng [] 0 mg (divV false [] 0 true false false [] 0 false true 0)
 | false, false => d01ff sn ct rt lt ch qh cm gm y0 t1 l1 t2 l2
 | false, true => d01ft sn ct rt lt ch qh cm gm y0 t1 l1 t2 l2
 | true, false => d01tf sn ct rt lt ch qh cm gm y0 t1 l1 t2 l2
 | true, true => d01tt sn ct rt lt ch qh cm gm y0 t1 l1 t2 l2
theorem e02 : ∀ ng mg : Bool, b74 sn ct rt lt ch qh cm gm Tryz.prog ng [] 0 t1 l1 mg (u32s [y0, y1]) 2 t2 l2 = bothD sn (u32s [y0, y1]) 2 ng [] 0 mg (divV false [] 0 true false false [] 0 false true 0)
 | false, false => d02ff sn ct rt lt ch qh cm gm y0 y1 t1 l1 t2 l2
 | false, true => d02ft sn ct rt lt ch qh cm gm y0 y1 t1 l1 t2 l2
 | true, false => d02tf sn ct rt lt ch qh cm gm y0 y1 t1 l1 t2 l2
 | true, true => d02tt sn ct rt lt ch qh cm gm y0 y1 t1 l1 t2 l2
theorem e10 : ∀ ng mg : Bool, b74 sn ct rt lt ch qh cm gm Tryz.prog ng (u32s [x0]) 1 t1 l1 mg [] 0 t2 l2 = bothD sn [] 0 ng (u32s [x0]) 1 mg (divV false [] 0 false true false [] 0 false true 13)
 | false, false => d10ff sn ct rt lt ch qh cm gm x0 t1 l1 t2 l2
 | false, true => d10ft sn ct rt lt ch qh cm gm x0 t1 l1 t2 l2
 | true, false => d10tf sn ct rt lt ch qh cm gm x0 t1 l1 t2 l2
 | true, true => d10tt sn ct rt lt ch qh cm gm x0 t1 l1 t2 l2
theorem e11 : ∀ ng mg : Bool, div1 sn ct rt lt ch qh cm gm x0 t1 l1 t2 l2 (u32s [y0]) 1 ng mg (Bool.xor ng mg) ng
 | false, false => d11ff sn ct rt lt ch qh cm gm x0 y0 t1 l1 t2 l2
 | false, true => d11ft sn ct rt lt ch qh cm gm x0 y0 t1 l1 t2 l2
 | true, false => d11tf sn ct rt lt ch qh cm gm x0 y0 t1 l1 t2 l2
 | true, true => d11tt sn ct rt lt ch qh cm gm x0 y0 t1 l1 t2 l2
theorem e12 : ∀ ng mg : Bool, div1 sn ct rt lt ch qh cm gm x0 t1 l1 t2 l2 (u32s [y0, y1]) 2 ng mg (Bool.xor ng mg) ng
 | false, false => d12ff sn ct rt lt ch qh cm gm x0 y0 y1 t1 l1 t2 l2
 | false, true => d12ft sn ct rt lt ch qh cm gm x0 y0 y1 t1 l1 t2 l2
 | true, false => d12tf sn ct rt lt ch qh cm gm x0 y0 y1 t1 l1 t2 l2
 | true, true => d12tt sn ct rt lt ch qh cm gm x0 y0 y1 t1 l1 t2 l2
theorem e20 : ∀ ng mg : Bool, b74 sn ct rt lt ch qh cm gm Tryz.prog ng (u32s [x0, x1]) 2 t1 l1 mg [] 0 t2 l2 = bothD sn [] 0 ng (u32s [x0, x1]) 2 mg (divV false [] 0 false true false [] 0 false true 13)
 | false, false => d20ff sn ct rt lt ch qh cm gm x0 x1 t1 l1 t2 l2
 | false, true => d20ft sn ct rt lt ch qh cm gm x0 x1 t1 l1 t2 l2
 | true, false => d20tf sn ct rt lt ch qh cm gm x0 x1 t1 l1 t2 l2
 | true, true => d20tt sn ct rt lt ch qh cm gm x0 x1 t1 l1 t2 l2
theorem e21 : ∀ ng mg : Bool, div2 sn ct rt lt ch qh cm gm x0 x1 t1 l1 t2 l2 (u32s [y0]) 1 ng mg (Bool.xor ng mg) ng
 | false, false => d21ff sn ct rt lt ch qh cm gm x0 x1 y0 t1 l1 t2 l2
 | false, true => d21ft sn ct rt lt ch qh cm gm x0 x1 y0 t1 l1 t2 l2
 | true, false => d21tf sn ct rt lt ch qh cm gm x0 x1 y0 t1 l1 t2 l2
 | true, true => d21tt sn ct rt lt ch qh cm gm x0 x1 y0 t1 l1 t2 l2
theorem e22 : ∀ ng mg : Bool, div2 sn ct rt lt ch qh cm gm x0 x1 t1 l1 t2 l2 (u32s [y0, y1]) 2 ng mg (Bool.xor ng mg) ng
 | false, false => d22ff sn ct rt lt ch qh cm gm x0 x1 y0 y1 t1 l1 t2 l2
 | false, true => d22ft sn ct rt lt ch qh cm gm x0 x1 y0 y1 t1 l1 t2 l2
 | true, false => d22tf sn ct rt lt ch qh cm gm x0 x1 y0 y1 t1 l1 t2 l2
 | true, true => d22tt sn ct rt lt ch qh cm gm x0 x1 y0 y1 t1 l1 t2 l2
end
theorem div_ok {ng mg : Bool} {a b : List AV} {n m : Nat} {t1 t2 l1 l2 : Bool} (ha : Num3 0 ng a n l1) (hn : n ≤ 2) (hb : Num3 0 mg b m l2) (hm : m ≤ 2) : DivGood (b74s Tryz.prog ng a n t1 l1 mg b m t2 l2) := by
 obtain ⟨la, rfl, ea, _, _, hla⟩ := lim3_is ha.lim
 obtain ⟨lb, rfl, eb, _, _, hlb⟩ := lim3_is hb.lim
 subst ea eb
 have one : ∀ x0, lmb x0 → ∀ (b : List AV) (m : Nat) (s1 s2 : Bool), dvs b m → DivGood (insR timG timR timL halG halQ minG minI b m [] x0 fun q r => endD s1 s2 [q] r) := fun x0 hx b m s1 s2 hb =>
  insR_good hb hx lims_nil (by simp) fun q r h1 h2 h3 => endD_good s1 s2 (lims_one h1) (by simp) h2 (by simp only [List.length_nil] at h3; omega)
 have two : ∀ x0 x1, lmb x0 → lmb x1 → ∀ (b : List AV) (m : Nat) (s1 s2 : Bool), dvs b m → DivGood (insR timG timR timL halG halQ minG minI b m [] x1 fun q1 r => insR timG timR timL halG halQ minG minI b m r x0 fun q r => endD s1 s2 [q, q1] r) := fun x0 x1 hx0 hx1 b m s1 s2 hb =>
  insR_good hb hx1 lims_nil (by simp) fun q1 r h1 h2 h3 => insR_good hb hx0 h2 (by simp only [List.length_nil] at h3; omega) fun q r2 h4 h5 h6 => endD_good s1 s2 (lims_cons h4 (lims_one h1)) (by simp) h5 (by simp only [List.length_nil] at h3; omega)
 have d1 : ∀ y0, lims [y0] → dvs (u32s [y0]) 1 := fun y0 h => ⟨lim3_u32s h (by simp), by omega, by omega⟩
 have d2 : ∀ y0 y1, lims [y0, y1] → dvs (u32s [y0, y1]) 2 := fun y0 y1 h => ⟨lim3_u32s h (by simp), by omega, by omega⟩
 have z13 : ∀ {x : Option AV}, x = divV false [] 0 false true false [] 0 false true 13 → DivGood x := fun e => ⟨_, _, _, _, _, _, _, _, _, _, _, e, num_zero _, by omega, num_zero _, by omega, .inr rfl⟩
 have z0 : ∀ {x : Option AV}, x = divV false [] 0 true false false [] 0 false true 0 → DivGood x := fun e => ⟨_, _, _, _, _, _, _, _, _, _, _, e, num_zero _, by omega, num_zero _, by omega, .inl rfl⟩
 have go : ∀ {x y : Option AV}, x = bothD sndG (u32s lb) lb.length ng (u32s la) la.length mg y → DivGood y → DivGood x := fun {x y} e h => by rw [e, bothD_t ha hb]; exact h
 match la, lb, hn, hm with
 | [], [], _, _ => exact go (e00 sndG timG timR timL halG halQ minG minI t1 l1 t2 l2 ng mg) (z13 rfl)
 | [x0], [], _, _ => exact go (e10 sndG timG timR timL halG halQ minG minI x0 t1 l1 t2 l2 ng mg) (z13 rfl)
 | [x0, x1], [], _, _ => exact go (e20 sndG timG timR timL halG halQ minG minI x0 x1 t1 l1 t2 l2 ng mg) (z13 rfl)
 | [], [y0], _, _ => exact go (e01 sndG timG timR timL halG halQ minG minI y0 t1 l1 t2 l2 ng mg) (z0 rfl)
 | [], [y0, y1], _, _ => exact go (e02 sndG timG timR timL halG halQ minG minI y0 y1 t1 l1 t2 l2 ng mg) (z0 rfl)
 | [x0], [y0], _, _ => exact go (e11 sndG timG timR timL halG halQ minG minI x0 y0 t1 l1 t2 l2 ng mg) (one x0 (hla x0 (by simp)) _ _ _ _ (d1 y0 hlb))
 | [x0], [y0, y1], _, _ => exact go (e12 sndG timG timR timL halG halQ minG minI x0 y0 y1 t1 l1 t2 l2 ng mg) (one x0 (hla x0 (by simp)) _ _ _ _ (d2 y0 y1 hlb))
 | [x0, x1], [y0], _, _ => exact go (e21 sndG timG timR timL halG halQ minG minI x0 x1 y0 t1 l1 t2 l2 ng mg) (two x0 x1 (hla x0 (by simp)) (hla x1 (by simp)) _ _ _ _ (d1 y0 hlb))
 | [x0, x1], [y0, y1], _, _ => exact go (e22 sndG timG timR timL halG halQ minG minI x0 x1 y0 y1 t1 l1 t2 l2 ng mg) (two x0 x1 (hla x0 (by simp)) (hla x1 (by simp)) _ _ _ _ (d2 y0 y1 hlb))
 | _ :: _ :: _ :: _, _, hn, _ => simp only [List.length_cons] at hn; omega
 | _, _ :: _ :: _ :: _, _, hm => simp only [List.length_cons] at hm; omega
end Go.Am.Sto
end
section
namespace Go.Am.Sto
open Go Go.Am Go.Proofs
theorem kX74 : KnownOk Tryz.prog G0 (X74 sndG timG timR timL halG halQ minG minI Tryz.prog) := ((((((KnownOk.none _ _).add k35v).add k137).add k138).add k139).add k140).add kX135
theorem kY74 {β : Type} : KnownKOk (X74 sndG timG timR timL halG halQ minG minI Tryz.prog) (Y74 sndG timG timR timL halG halQ minG minI Tryz.prog : KnownK β) :=
 addH' (addH' (addH' (addH' (addH' (addH' (KnownKOk.none _) 35 (zK_le _)) 137 cutBK_le) 138 (insK_le _)) 139 (zK_le _)) 140 (zK_le _)) 135 (K135_le _ _)
structure DivR where
 c : Bool
 g1 : Bool
 r1 : List AV
 k1 : Nat
 n1 : Bool
 g2 : Bool
 r2 : List AV
 k2 : Nat
 n2 : Bool
 e : Int
def divR (x : Option AV) : DivR := match x with
 | some (.tup [.agg [.bool g1, .lst v k _ l], .agg [.bool g2, .lst u j _ l2], .int .i64 e]) => ⟨true, g1, v, k, l, g2, u, j, l2, e⟩
 | _ => ⟨false, false, [], 0, false, false, [], 0, false, 0⟩
def divA (r : DivR) : AV := .tup [.agg [.bool r.g1, .lst r.r1 r.k1 false r.n1], .agg [.bool r.g2, .lst r.r2 r.k2 false r.n2], .int .i64 r.e]
def F74v (dv : Bool → List AV → Nat → Bool → Bool → Bool → List AV → Nat → Bool → Bool → DivR) : List AV → Option (Bool × AV)
 | [.agg [.bool ng, .lst a n t1 l1], .agg [.bool mg, .lst b m t2 l2]] => some ((dv ng a n t1 l1 mg b m t2 l2).c, divA (dv ng a n t1 l1 mg b m t2 l2))
 | _ => none
abbrev dvS (P : Program) (ng : Bool) (a : List AV) (n : Nat) (t1 l1 : Bool) (mg : Bool) (b : List AV) (m : Nat) (t2 l2 : Bool) : DivR := divR (b74s P ng a n t1 l1 mg b m t2 l2)
def F74t (P : Program) : List AV → Option (Bool × AV)
 | [.agg [.bool ng, .lst a n t1 l1], .agg [.bool mg, .lst b m t2 l2]] => some ((divR (b74s P ng a n t1 l1 mg b m t2 l2)).c, match b74s P ng a n t1 l1 mg b m t2 l2 with | some v => v | none => .undef)
 | _ => none
theorem k74t : ZOk Tryz.prog G0 74 (F74t Tryz.prog) := z_known (D := D74) (m := 6) (loops := 0) (n := 8) hm hn G0_plain kX74 kY74 fun ar x hF => by
 unfold F74t at hF
 split at hF
 case h_2 => cases hF
 rename_i ng a n t1 l1 mg b m t2 l2
 simp only [Option.some.injEq, Prod.mk.injEq] at hF
 obtain ⟨h1, rfl⟩ := hF
 show b74s Tryz.prog ng a n t1 l1 mg b m t2 l2 = _
 cases hb : b74s Tryz.prog ng a n t1 l1 mg b m t2 l2 with
 | none => rw [hb] at h1; cases h1
 | some v => rfl
theorem divR_eq {x : Option AV} (h : (divR x).c = true) : ∃ t t2, x = some (.tup [.agg [.bool (divR x).g1, .lst (divR x).r1 (divR x).k1 t (divR x).n1], .agg [.bool (divR x).g2, .lst (divR x).r2 (divR x).k2 t2 (divR x).n2], .int .i64 (divR x).e]) := by
 unfold divR at h
 split at h
 ·exact ⟨_, _, rfl⟩
 ·cases h
theorem k74 : ZOk Tryz.prog G0 74 (F74v (dvS Tryz.prog)) := z_loose k74t fun ar x hF => by
 unfold F74v at hF
 split at hF
 case h_2 => cases hF
 rename_i ng a n t1 l1 mg b m t2 l2
 simp only [Option.some.injEq, Prod.mk.injEq] at hF
 obtain ⟨h1, rfl⟩ := hF
 have h1 : (divR (b74s Tryz.prog ng a n t1 l1 mg b m t2 l2)).c = true := h1
 obtain ⟨t, t2', e⟩ := divR_eq h1
 refine ⟨_, (by unfold F74t; simp only [h1]; rfl), fun E v hv => ?_⟩
 show VR E (divA (divR (b74s Tryz.prog ng a n t1 l1 mg b m t2 l2))) v
 generalize b74s Tryz.prog ng a n t1 l1 mg b m t2 l2 = X at *
 rw [e] at hv
 simp only at hv
 unfold divA
 cases hv with
 | tup hl => cases hl with
  | cons q1 q2 => cases q1 with
   | agg q1 => cases q1 with
    | cons q3 q4 => cases q4 with
     | cons q5 q6 => cases q2 with
      | cons p1 p2 => cases p1 with
       | agg p1 => cases p1 with
        | cons p3 p4 => cases p4 with
         | cons p5 p6 => exact .tup (.cons (.agg (.cons q3 (.cons q5.untight q6))) (.cons (.agg (.cons p3 (.cons p5.untight p6))) p2))
theorem dv_ok {ng mg : Bool} {a b : List AV} {n m : Nat} {t1 t2 l1 l2 : Bool} (ha : Num3 0 ng a n l1) (hn : n ≤ 2) (hb : Num3 0 mg b m l2) (hm : m ≤ 2) :
  ∃ r, dvS Tryz.prog ng a n t1 l1 mg b m t2 l2 = r ∧ r.c = true ∧ Num3 0 r.g1 r.r1 r.k1 r.n1 ∧ r.k1 ≤ 2 ∧ Num3 0 r.g2 r.r2 r.k2 r.n2 ∧ r.k2 ≤ 2 ∧ (r.e = 0 ∨ r.e = 13) := by
 obtain ⟨g1, v, k, t, l, g2, u, j, t2', l2', e, h1, h2, h3, h4, h5, h6⟩ := div_ok (t1 := t1) (t2 := t2) ha hn hb hm
 refine ⟨⟨true, g1, v, k, l, g2, u, j, l2', e⟩, ?_, rfl, h2, h3, h4, h5, h6⟩
 unfold dvS
 rw [h1]; rfl
/-! ## Modulo -/
section
variable (dv : Bool → List AV → Nat → Bool → Bool → Bool → List AV → Nat → Bool → Bool → DivR) (ad : Bool → List AV → Nat → Bool → Bool → Bool → List AV → Nat → Bool → Bool → Bool) (ag an : Bool → List AV → Nat → Bool → Bool → Bool → List AV → Nat → Bool → Bool → Bool) (ar : Bool → List AV → Nat → Bool → Bool → Bool → List AV → Nat → Bool → Bool → List AV)
 (ak : Bool → List AV → Nat → Bool → Bool → Bool → List AV → Nat → Bool → Bool → Nat) (ae : Bool → List AV → Nat → Bool → Bool → Bool → List AV → Nat → Bool → Bool → Int)
def X75 : Known := (Known.none.add 74 (zX (F74v dv))).add 70 (zX (F70v ad ag an ar ak ae))
def Y75 {β : Type} : KnownK β := (KnownK.none.add 74 (zK (F74v dv))).add 70 (zK (F70v ad ag an ar ak ae))
def b75 (P : Program) (ng : Bool) (a : List AV) (n : Nat) (t1 l1 : Bool) (mg : Bool) (b : List AV) (m : Nat) (t2 l2 : Bool) : Option AV :=
 bodyY P G0 (X75 dv ad ag an ar ak ae) (Y75 dv ad ag an ar ak ae) 0 8 noLive Res.freshW? 3 P.funcs[75]? [.agg [.bool ng, .lst a n t1 l1], .agg [.bool mg, .lst b m t2 l2]] St.empty
def keepM (r : DivR) : Option AV := ifK (AV.plain (.lst r.r2 r.k2 false r.n2)) (numR3 r.g2 r.r2 r.k2 false r.n2 r.e)
def modT (ng mg : Bool) (a : List AV) (n : Nat) (t1 l1 : Bool) (b : List AV) (m : Nat) (t2 l2 : Bool) (r : DivR) (x y : Option AV) : Option AV := ifK (AV.plain (.agg [.bool ng, .lst a n t1 l1])) (ifK (AV.plain (.agg [.bool mg, .lst b m t2 l2])) (ifK r.c (byB (!eqI r.e 0) (keepM r) (byB (eqI (.ofNat r.k2) 0) (keepM r) (byB r.g2 x y)))))
variable (a : List AV) (n : Nat) (t1 l1 : Bool) (b : List AV) (m : Nat) (t2 l2 : Bool)
theorem t75f (ng : Bool) : b75 dv ad ag an ar ak ae Tryz.prog ng a n t1 l1 false b m t2 l2 = modT ng false a n t1 l1 b m t2 l2 (dv ng a n t1 l1 false b m t2 l2)
  (addT ad ag an ar ak ae (dv ng a n t1 l1 false b m t2 l2).r2 (dv ng a n t1 l1 false b m t2 l2).k2 false (dv ng a n t1 l1 false b m t2 l2).n2 b m t2 l2 (dv ng a n t1 l1 false b m t2 l2).g2 false) (keepM (dv ng a n t1 l1 false b m t2 l2)) := by kernel_rfl
theorem t75t (ng : Bool) : b75 dv ad ag an ar ak ae Tryz.prog ng a n t1 l1 true b m t2 l2 = modT ng true a n t1 l1 b m t2 l2 (dv ng a n t1 l1 true b m t2 l2)
  (keepM (dv ng a n t1 l1 true b m t2 l2)) (addT ad ag an ar ak ae (dv ng a n t1 l1 true b m t2 l2).r2 (dv ng a n t1 l1 true b m t2 l2).k2 false (dv ng a n t1 l1 true b m t2 l2).n2 b m t2 l2 (dv ng a n t1 l1 true b m t2 l2).g2 true) := by kernel_rfl
end
section
variable (P : Program)
abbrev b75s (ng : Bool) (a : List AV) (n : Nat) (t1 l1 : Bool) (mg : Bool) (b : List AV) (m : Nat) (t2 l2 : Bool) : Option AV := b75 (dvS P) (adS P) (agS P) (anS P) (arS P) (akS P) (aeS P) P ng a n t1 l1 mg b m t2 l2
def F75 : List AV → Option (Bool × AV)
 | [.agg [.bool ng, .lst a n t1 l1], .agg [.bool mg, .lst b m t2 l2]] => some (isN (b75s P ng a n t1 l1 mg b m t2 l2), valM (b75s P ng a n t1 l1 mg b m t2 l2))
 | _ => none
end
theorem kX75 : KnownOk Tryz.prog G0 (X75 (dvS Tryz.prog) (adS Tryz.prog) (agS Tryz.prog) (anS Tryz.prog) (arS Tryz.prog) (akS Tryz.prog) (aeS Tryz.prog)) := ((KnownOk.none _ _).add k74).add k70s
theorem kY75 {β : Type} : KnownKOk (X75 (dvS Tryz.prog) (adS Tryz.prog) (agS Tryz.prog) (anS Tryz.prog) (arS Tryz.prog) (akS Tryz.prog) (aeS Tryz.prog)) (Y75 (dvS Tryz.prog) (adS Tryz.prog) (agS Tryz.prog) (anS Tryz.prog) (arS Tryz.prog) (akS Tryz.prog) (aeS Tryz.prog) : KnownK β) := addH' (addH' (KnownKOk.none _) 74 (zK_le _)) 70 (zK_le _)
end Go.Am.Sto
end
section
namespace Go.Am.Sto
open Go Go.Am Go.Proofs
theorem k75 : WOk Tryz.prog G0 75 (F75 Tryz.prog) := w_known (D := noLive) (m := 3) (loops := 0) (n := 8) hm hn G0_plain kX75 kY75 fun ar x hF => by
 unfold F75 at hF
 split at hF
 case h_2 => cases hF
 rename_i ng a n t1 l1 mg b m t2 l2
 simp only [Option.some.injEq, Prod.mk.injEq] at hF
 obtain ⟨h1, rfl⟩ := hF
 exact isN_eq h1
theorem plain_agg {i : Int} {g : Bool} {a : List AV} {n : Nat} {t nl : Bool} (h : Num3 i g a n nl) : AV.plain (.agg [.bool g, .lst a n t nl]) = true := by
 show (true && (AV.plains a && true)) = true
 rw [h.plain]; rfl
def ModGood (x : Option AV) : Prop := ∃ g r k l e, x = numR3 g r k false l e ∧ Num3 1 g r k l ∧ (e = 0 ∨ e = 13)
theorem Num3.up {i j : Int} (hij : i ≤ j) {g : Bool} {a : List AV} {n : Nat} {nl : Bool} (h : Num3 i g a n nl) : Num3 j g a n nl := ⟨h.snd, h.le, fun z e => Int.le_trans (h.top z e) hij, h.nl⟩
theorem mod_ok {ng mg : Bool} {a b : List AV} {n m : Nat} {t1 t2 l1 l2 : Bool} (ha : Num3 0 ng a n l1) (hn : n ≤ 2) (hb : Num3 0 mg b m l2) (hm : m ≤ 2) : ModGood (b75s Tryz.prog ng a n t1 l1 mg b m t2 l2) := by
 obtain ⟨r, e, h1, _, _, h4, h5, h6⟩ := dv_ok (t1 := t1) (t2 := t2) ha hn hb hm
 have hk : ModGood (keepM r) := by
  unfold keepM
  rw [show AV.plain (.lst r.r2 r.k2 false r.n2) = true from h4.plain]
  exact ⟨_, _, _, _, _, rfl, h4.up (by omega), h6⟩
 have hadd : ModGood (addT (adS Tryz.prog) (agS Tryz.prog) (anS Tryz.prog) (arS Tryz.prog) (akS Tryz.prog) (aeS Tryz.prog) r.r2 r.k2 false r.n2 b m t2 l2 r.g2 mg) := by
  obtain ⟨g, r', k, e, hN⟩ := add_ok (t1 := false) (t2 := t2) (i := 0) ⟨by omega, by omega⟩ h4 hb hm
  refine ⟨g, r', k, false, 0, ?_, hN, .inl rfl⟩
  unfold addT adS agS anS arS akS aeS
  rw [e]
  refine (ifK_t (plain_agg h4) _).trans ?_
  refine (ifK_t (plain_agg hb) _).trans ?_
  refine (ifK_t rfl _).trans ?_
  exact ifK_t hN.plain _
 have hall : ∀ x y, ModGood x → ModGood y → ModGood (modT ng mg a n t1 l1 b m t2 l2 r x y) := fun x y hx hy => by
  unfold modT
  rw [plain_agg ha, plain_agg hb, h1]
  show ModGood (byB (!eqI r.e 0) _ _)
  cases (!eqI r.e 0) with
  | true => exact hk
  | false =>
   show ModGood (byB (eqI (.ofNat r.k2) 0) _ _)
   cases eqI (.ofNat r.k2) 0 with
   | true => exact hk
   | false =>
    show ModGood (byB r.g2 x y)
    cases r.g2 with
    | true => exact hx
    | false => exact hy
 cases mg with
 | false => rw [b75s, t75f, e]; exact hall _ _ hadd hk
 | true => rw [b75s, t75t, e]; exact hall _ _ hk hadd
end Go.Am.Sto
end
section
namespace Go.Am.Sto
open Go Go.Am Go.Proofs
section
variable (isn : Int → Int → Bool) (ng : Int → Bool) (ls : Int → List AV) (ln : Int → Nat) (le : Int → Bool) (dv : Bool → List AV → Nat → Bool → Bool → Bool → List AV → Nat → Bool → Bool → DivR)
variable (ad : Bool → List AV → Nat → Bool → Bool → Bool → List AV → Nat → Bool → Bool → Bool) (ag an : Bool → List AV → Nat → Bool → Bool → Bool → List AV → Nat → Bool → Bool → Bool) (ar : Bool → List AV → Nat → Bool → Bool → Bool → List AV → Nat → Bool → Bool → List AV)
 (ak : Bool → List AV → Nat → Bool → Bool → Bool → List AV → Nat → Bool → Bool → Nat) (ae : Bool → List AV → Nat → Bool → Bool → Bool → List AV → Nat → Bool → Bool → Int)
variable (ic : Hid → Bool → List AV → Nat → Bool → Bool) (it iv ie : Hid → Bool → List AV → Nat → Bool → Int) (iD : Hid → Bool → List AV → Nat → Bool → Hid)
def XQ : Known := ((XB isn ng ls ln le).add 18 (methX (F18v ic it iv ie iD))).add 74 (zX (F74v dv))
def YQ {β : Type} : KnownK β := ((YB isn ng ls ln le).add 18 (methK (F18v ic it iv ie iD))).add 74 (zK (F74v dv))
def apQ (P : Program) (tt : Bool) (d : Hid) (op : Int) (cs : List AV) (n : Nat) : Option R := bodyY P G2 (XQ isn ng ls ln le dv ic it iv ie iD) (YQ isn ng ls ln le dv ic it iv ie iD) 90 20 noLive Res.meth? 100 P.funcs[10]? [.hptr 0, .int .i64 op, .lst cs n tt false] (St.one d)
def twoN (k : Int → Int → Option R) : List Int → Option R
 | [z, w] => k z w
 | _ => none
def divQ (d : Hid) (r : DivR) (x : Option R) (z w : Int) : Option R := ifK (AV.plain (nA (ng z) (ls z) (ln z) false (le z))) (ifK (AV.plain (nA (ng w) (ls w) (ln w) false (le w))) (ifK r.c (byB (!eqI r.e 0) (gV d 0 0 r.e) x)))
variable (tt : Bool) (d : Hid) (cs : List AV)
theorem ask3 : apQ isn ng ls ln le dv ic it iv ie iD Tryz.prog tt d 3 cs 2 = ifK (AV.plain (.lst cs 2 tt false)) (ifK (okp d cs 2) (numsT isn d cs (twoN fun z w => divQ ng ls ln le d (dv (ng z) (ls z) (ln z) false (le z) (ng w) (ls w) (ln w) false (le w))
 (giveT ic it iv ie iD d (dv (ng z) (ls z) (ln z) false (le z) (ng w) (ls w) (ln w) false (le w)).g1 (dv (ng z) (ls z) (ln z) false (le z) (ng w) (ls w) (ln w) false (le w)).r1 (dv (ng z) (ls z) (ln z) false (le z) (ng w) (ls w) (ln w) false (le w)).k1 false (dv (ng z) (ls z) (ln z) false (le z) (ng w) (ls w) (ln w) false (le w)).n1) z w) 2 0 [])) := by kernel_rfl
theorem ask4 : apQ isn ng ls ln le dv ic it iv ie iD Tryz.prog tt d 4 cs 2 = ifK (AV.plain (.lst cs 2 tt false)) (ifK (okp d cs 2) (numsT isn d cs (twoN fun z w => divQ ng ls ln le d (dv (ng z) (ls z) (ln z) false (le z) (ng w) (ls w) (ln w) false (le w))
 (giveT ic it iv ie iD d (dv (ng z) (ls z) (ln z) false (le z) (ng w) (ls w) (ln w) false (le w)).g2 (dv (ng z) (ls z) (ln z) false (le z) (ng w) (ls w) (ln w) false (le w)).r2 (dv (ng z) (ls z) (ln z) false (le z) (ng w) (ls w) (ln w) false (le w)).k2 false (dv (ng z) (ls z) (ln z) false (le z) (ng w) (ls w) (ln w) false (le w)).n2) z w) 2 0 [])) := by kernel_rfl
theorem ask5 : apA isn ng ls ln le ad ag an ar ak ae ic it iv ie iD Tryz.prog 75 tt d 5 cs 2 = ifK (AV.plain (.lst cs 2 tt false)) (ifK (okp d cs 2) (numsT isn d cs (twoN fun z w => ifK (AV.plains [nA (ng z) (ls z) (ln z) false (le z), nA (ng w) (ls w) (ln w) false (le w)])
 (ifK (ad (ng z) (ls z) (ln z) false (le z) (ng w) (ls w) (ln w) false (le w)) (byB (!eqI (ae (ng z) (ls z) (ln z) false (le z) (ng w) (ls w) (ln w) false (le w)) 0) (gV d 0 0 (ae (ng z) (ls z) (ln z) false (le z) (ng w) (ls w) (ln w) false (le w)))
  (giveT ic it iv ie iD d (ag (ng z) (ls z) (ln z) false (le z) (ng w) (ls w) (ln w) false (le w)) (ar (ng z) (ls z) (ln z) false (le z) (ng w) (ls w) (ln w) false (le w)) (ak (ng z) (ls z) (ln z) false (le z) (ng w) (ls w) (ln w) false (le w)) false (an (ng z) (ls z) (ln z) false (le z) (ng w) (ls w) (ln w) false (le w)))))) 2 0 [])) := by kernel_rfl
end
end Go.Am.Sto
end
section
namespace Go.Am.Sto
open Go Go.Am Go.Proofs
theorem k75s : WOk Tryz.prog G0 75 (F70v (fun ng a n t1 l1 mg b m t2 l2 => isN (b75s Tryz.prog ng a n t1 l1 mg b m t2 l2)) (fun ng a n t1 l1 mg b m t2 l2 => gO (b75s Tryz.prog ng a n t1 l1 mg b m t2 l2)) (fun ng a n t1 l1 mg b m t2 l2 => nO (b75s Tryz.prog ng a n t1 l1 mg b m t2 l2))
  (fun ng a n t1 l1 mg b m t2 l2 => rO (b75s Tryz.prog ng a n t1 l1 mg b m t2 l2)) (fun ng a n t1 l1 mg b m t2 l2 => kO (b75s Tryz.prog ng a n t1 l1 mg b m t2 l2)) (fun ng a n t1 l1 mg b m t2 l2 => eO (b75s Tryz.prog ng a n t1 l1 mg b m t2 l2))) := w_mono k75 fun ar x hF => by
 unfold F70v at hF
 split at hF
 ·exact hF
 ·cases hF
section
variable (P : Program)
abbrev XDiv : Known := XQ isnS ngS lsS lnS leS (dvS P) icS itS ivS ieS iDS
abbrev YDiv {β : Type} : KnownK β := YQ isnS ngS lsS lnS leS (dvS P) icS itS ivS ieS iDS
abbrev XMod : Known := XA isnS ngS lsS lnS leS (fun ng a n t1 l1 mg b m t2 l2 => isN (b75s P ng a n t1 l1 mg b m t2 l2)) (fun ng a n t1 l1 mg b m t2 l2 => gO (b75s P ng a n t1 l1 mg b m t2 l2)) (fun ng a n t1 l1 mg b m t2 l2 => nO (b75s P ng a n t1 l1 mg b m t2 l2))
  (fun ng a n t1 l1 mg b m t2 l2 => rO (b75s P ng a n t1 l1 mg b m t2 l2)) (fun ng a n t1 l1 mg b m t2 l2 => kO (b75s P ng a n t1 l1 mg b m t2 l2)) (fun ng a n t1 l1 mg b m t2 l2 => eO (b75s P ng a n t1 l1 mg b m t2 l2)) icS itS ivS ieS iDS 75
abbrev YMod {β : Type} : KnownK β := YA isnS ngS lsS lnS leS (fun ng a n t1 l1 mg b m t2 l2 => isN (b75s P ng a n t1 l1 mg b m t2 l2)) (fun ng a n t1 l1 mg b m t2 l2 => gO (b75s P ng a n t1 l1 mg b m t2 l2)) (fun ng a n t1 l1 mg b m t2 l2 => nO (b75s P ng a n t1 l1 mg b m t2 l2))
  (fun ng a n t1 l1 mg b m t2 l2 => rO (b75s P ng a n t1 l1 mg b m t2 l2)) (fun ng a n t1 l1 mg b m t2 l2 => kO (b75s P ng a n t1 l1 mg b m t2 l2)) (fun ng a n t1 l1 mg b m t2 l2 => eO (b75s P ng a n t1 l1 mg b m t2 l2)) icS itS ivS ieS iDS 75
end
theorem kXDiv : KnownOk Tryz.prog G2 (XDiv Tryz.prog) := (kXB.add k18).add (zG2 k74)
theorem kYDiv {β : Type} : KnownKOk (XDiv Tryz.prog) (YDiv Tryz.prog : KnownK β) := addH' (addK kYB 18 _) 74 (zK_le _)
theorem kXMod : KnownOk Tryz.prog G2 (XMod Tryz.prog) := (kXB.add k18).add (wG2 k75s)
theorem kYMod {β : Type} : KnownKOk (XMod Tryz.prog) (YMod Tryz.prog : KnownK β) := addH' (addK kYB 18 _) 75 (wK_le _)
theorem err_good {d : Hid} {e : Int} (h : e = 0 ∨ e = 13) {x : Option R} (hx : Good x) : Good (byB (!eqI e 0) (gV d 0 0 e) x) :=
 good_byB (good_gV (by omega) (by omega)) hx
section
variable (l : List V2) (hl : l.length = 2) (hk : okAll 0 l = true)
include hl hk
theorem two_good (k : Int → Int → Option R) (h : ∀ z w, small z = true → small w = true → Good (k z w)) : Good (ifK (AV.plain (.lst (cellsA l) 2 false false)) (ifK (okp d0 (cellsA l) 2) (numsT isnS d0 (cellsA l) (twoN k) 2 0 []))) := by
 refine good_ifK (cellsA_plains l) (good_ifK (hl ▸ okp_of (by omega) hk) (nums_good (fun zs hz hn => ?_) 2 0 [] (by omega) rfl (fun z hz => by cases hz)))
 match zs, hn with
 | [z, w], _ => exact h z w (hz z (by simp)) (hz w (by simp))
 | [], hn => simp only [List.length_nil] at hn; omega
 | [_], hn => simp only [List.length_cons, List.length_nil] at hn; omega
 | _ :: _ :: _ :: _, hn => simp only [List.length_cons] at hn; omega
theorem ans_3q (ha : arOk 3 l.length = true) : Answered Tryz.prog 3 l := by
 refine ans_good kXDiv kYDiv (D := noLive) (m := 100) (loops := 90) (n := 20) (by decide) (by decide) hk ha ?_
 have e := ask3 isnS ngS lsS lnS leS (dvS Tryz.prog) icS itS ivS ieS iDS false d0 (cellsA l)
 unfold apQ at e
 rw [hl, e]
 refine two_good l hl hk _ fun z w hz hw => ?_
 obtain ⟨h1, h2⟩ := num_small hz
 obtain ⟨h3, h4⟩ := num_small hw
 obtain ⟨r, er, g1, g2, g3, g4, g5, g6⟩ := dv_ok (t1 := false) (t2 := false) h1 h2 h3 h4
 rw [er]
 exact good_ifK (plain_num h1.toN) (good_ifK (plain_num h3.toN) (good_ifK g1 (err_good g6 (give_ok nums0 g2.toN (by omega)))))
theorem ans_4q (ha : arOk 4 l.length = true) : Answered Tryz.prog 4 l := by
 refine ans_good kXDiv kYDiv (D := noLive) (m := 100) (loops := 90) (n := 20) (by decide) (by decide) hk ha ?_
 have e := ask4 isnS ngS lsS lnS leS (dvS Tryz.prog) icS itS ivS ieS iDS false d0 (cellsA l)
 unfold apQ at e
 rw [hl, e]
 refine two_good l hl hk _ fun z w hz hw => ?_
 obtain ⟨h1, h2⟩ := num_small hz
 obtain ⟨h3, h4⟩ := num_small hw
 obtain ⟨r, er, g1, g2, g3, g4, g5, g6⟩ := dv_ok (t1 := false) (t2 := false) h1 h2 h3 h4
 rw [er]
 exact good_ifK (plain_num h1.toN) (good_ifK (plain_num h3.toN) (good_ifK g1 (err_good g6 (give_ok nums0 g4.toN (by omega)))))
theorem ans_5q (ha : arOk 5 l.length = true) : Answered Tryz.prog 5 l := by
 refine ans_good kXMod kYMod (D := noLive) (m := 100) (loops := 90) (n := 20) (by decide) (by decide) hk ha ?_
 have e := ask5 isnS ngS lsS lnS leS (fun ng a n t1 l1 mg b m t2 l2 => isN (b75s Tryz.prog ng a n t1 l1 mg b m t2 l2)) (fun ng a n t1 l1 mg b m t2 l2 => gO (b75s Tryz.prog ng a n t1 l1 mg b m t2 l2)) (fun ng a n t1 l1 mg b m t2 l2 => nO (b75s Tryz.prog ng a n t1 l1 mg b m t2 l2))
  (fun ng a n t1 l1 mg b m t2 l2 => rO (b75s Tryz.prog ng a n t1 l1 mg b m t2 l2)) (fun ng a n t1 l1 mg b m t2 l2 => kO (b75s Tryz.prog ng a n t1 l1 mg b m t2 l2)) (fun ng a n t1 l1 mg b m t2 l2 => eO (b75s Tryz.prog ng a n t1 l1 mg b m t2 l2)) icS itS ivS ieS iDS false d0 (cellsA l)
 unfold apA at e
 rw [hl, e]
 refine two_good l hl hk _ fun z w hz hw => ?_
 obtain ⟨h1, h2⟩ := num_small hz
 obtain ⟨h3, h4⟩ := num_small hw
 obtain ⟨g, r, k, nl, e, q1, q2, q3⟩ := mod_ok (t1 := false) (t2 := false) h1 h2 h3 h4
 refine good_ifK (show AV.plains [nA (ngS z) (lsS z) (lnS z) false (leS z), nA (ngS w) (lsS w) (lnS w) false (leS w)] = true from ?_) (good_ifK (show isN _ = true by rw [q1]; rfl) ?_)
 ·show (AV.plain (nA (ngS z) (lsS z) (lnS z) false (leS z)) && (AV.plain (nA (ngS w) (lsS w) (lnS w) false (leS w)) && true)) = true
  rw [plain_num h1.toN, plain_num h3.toN]; rfl
 ·rw [q1]
  exact err_good q3 (give_ok nums0 q2.toN (by omega))
end
theorem ar_two {op : Int} (h : op = 3 ∨ op = 4 ∨ op = 5) {n : Nat} (ha : arOk op n = true) : n = 2 := by
 have e : arOf op = (2, 2) := by rcases h with rfl | rfl | rfl <;> rfl
 unfold arOk at ha
 rw [e] at ha
 have ha : (leI 2 (.ofNat n) && (!leI 0 2 || leI (.ofNat n) 2)) = true := ha
 rw [leI_t (show (0 : Int) ≤ 2 by omega)] at ha
 have ha : (leI 2 (.ofNat n) && leI (.ofNat n) 2) = true := ha
 rw [Bool.and_eq_true, leI_iff, leI_iff, decide_eq_true_iff, decide_eq_true_iff] at ha
 simp only [Int.ofNat_eq_natCast] at ha
 omega
end Go.Am.Sto
end
