import Derived.Test.YtlibahklbbachaaGreatDoorRf34
import Derived.Test.YtlibahklbbachaaGreatDoorRf21
import Derived.Test.YtlibahklbbachaaGreatDoorRf35
import Derived.Test.YtlibahklbbachaaGreatDoorRf36
import Derived.Test.YtlibahklbbachaaGreatDoorRf37
import Derived.Test.YtlibahklbbachaaGreatDoorRf38
import Derived.Test.YtlibahklbbachaaGreatDoorRf39
import Derived.Test.YtlibahklbbachaaGreatDoorRf40
import Derived.Test.YtlibahklbbachaaGreatDoorRf41
import Derived.Test.YtlibahklbbachaaGreatDoorRf28
import Derived.Test.YtlibahklbbachaaGreatDoorRf33
import Derived.Test.YtlibahklbbachaaGreatDoorRf20
set_option autoImplicit false
set_option maxRecDepth 100000
set_option linter.unusedSimpArgs false
set_option linter.unusedVariables false
set_option maxHeartbeats 8000000
section
namespace Go.Am
theorem convZL_plain {s : St} : ∀ {l : List AV}, AV.plains l = true → convZL s l = some l
 | [], _ => rfl
 | a :: l, h => by
  have h : (a.plain && AV.plains l) = true := h
  rw [Bool.and_eq_true] at h
  have e : convZ s a = some a := by
   unfold convZ
   split
   ·cases h.1
   ·rw [h.1]; rfl
  simp only [convZL, e, convZL_plain h.2]
theorem w_of_z {P : Program} {G : Glob} {f : FuncId} {F : List AV → Option (Bool × AV)} (h : ZOk P G f F) : WOk P G f F := by
 intro args s E w vs h0 hG ha
 have k := h args s E w vs h0 hG ha
 unfold zX at k
 unfold wX
 rcases Bool.eq_false_or_eq_true (AV.plains args) with hp | hp
 ·rw [hp]
  rw [convZL_plain hp] at k
  exact k
 ·rw [hp]; trivial
theorem w_mono {P : Program} {G : Glob} {f : FuncId} {F F' : List AV → Option (Bool × AV)} (h : WOk P G f F) (hF : ∀ ar x, F' ar = some (true, x) → F ar = some (true, x)) : WOk P G f F' := by
 intro args s E w vs h0 hG ha
 have k := h args s E w vs h0 hG ha
 unfold wX at k ⊢
 rcases Bool.eq_false_or_eq_true (AV.plains args) with hp | hp
 ·rw [hp] at k ⊢
  simp only [cond_true] at k ⊢
  split
  ·rename_i p hp
   obtain ⟨c, x⟩ := p
   cases c with
   | false => trivial
   | true => rw [hF args x hp] at k; exact k
  ·trivial
 ·rw [hp]; trivial
end Go.Am
namespace Go.Am.Sto
open Go Go.Am Go.Proofs
/-! ## The numbers of arguments -/
theorem num_small {z : Int} (h : small z = true) : Num3 0 (ngS z) (lsS z) (lnS z) (leS z) ∧ lnS z ≤ 2 := by
 unfold small at h
 rw [Bool.and_eq_true, leI_iff, leI_iff, decide_eq_true_iff, decide_eq_true_iff] at h
 have lk : ∀ {a : Int}, 0 ≤ a → a < 1000000000 → isLimb (.int .u32 a) = true := fun {a} h0 h1 => by
  show (leI 0 a && !leI 1000000000 a) = true
  rw [leI_t h0, leI_f h1]; rfl
 by_cases h0 : z.natAbs = 0
 ·have : z = 0 := by omega
  subst this
  exact ⟨⟨rfl, by decide, fun y hy => (by cases hy), fun hn => absurd rfl hn⟩, by decide⟩
 ·by_cases h1 : z.natAbs < 1000000000
  ·have hl : limbs z.natAbs = [((z.natAbs : Nat) : Int)] := by unfold limbs; rw [if_neg h0, if_pos h1]
   unfold lsS lnS leS
   rw [hl]
   refine ⟨⟨?_, by simp only [List.length_cons, List.length_nil]; omega, fun y hy => (by cases hy), fun _ => rfl⟩, by simp only [List.length_cons, List.length_nil]; omega⟩
   show (true && ((true && (true && (isLimb (.int .u32 ((z.natAbs : Nat) : Int)) && true))) && !eqI ((z.natAbs : Nat) : Int) 0)) = true
   rw [lk (by omega) (by omega), eqI_ne (by omega)]; rfl
  ·have hl : limbs z.natAbs = [((z.natAbs % 1000000000 : Nat) : Int), ((z.natAbs / 1000000000 : Nat) : Int)] := by unfold limbs; rw [if_neg h0, if_neg h1]
   unfold lsS lnS leS
   rw [hl]
   refine ⟨⟨?_, by simp only [List.length_cons, List.length_nil]; omega, fun y hy => (by cases hy), fun _ => rfl⟩, by simp only [List.length_cons, List.length_nil]; omega⟩
   show (true && ((true && (true && (isLimb (.int .u32 ((z.natAbs % 1000000000 : Nat) : Int)) && (isLimb (.int .u32 ((z.natAbs / 1000000000 : Nat) : Int)) && true)))) && !eqI ((z.natAbs / 1000000000 : Nat) : Int) 0)) = true
   rw [lk (by omega) (by omega), lk (by omega) (by omega), eqI_ne (by omega)]; rfl
theorem Num3.toN {i : Int} {g : Bool} {a : List AV} {n : Nat} {nl : Bool} (h : Num3 i g a n nl) : NumN 3 g a n nl := ⟨h.snd, h.le, h.nl⟩
theorem plain_num {m : Nat} {g : Bool} {a : List AV} {n : Nat} {t nl : Bool} (h : NumN m g a n nl) : AV.plain (nA g a n t nl) = true := by
 show (true && (AV.plains a && true)) = true
 rw [h.plain]; rfl
theorem nums_good {l : List V2} {k : List Int → Option R} (hk : ∀ zs : List Int, (∀ z ∈ zs, small z = true) → zs.length = l.length → Good (k zs)) : ∀ (n i : Nat) (acc : List Int), i + n = l.length → acc.length = i → (∀ z ∈ acc, small z = true) → Good (numsT isnS d0 (cellsA l) k n i acc)
 | 0, i, acc, h1, h2, h3 => hk acc h3 (by omega)
 | n + 1, i, acc, h1, h2, h3 => by
  have hi : i < l.length := by omega
  obtain ⟨e1, e2⟩ := cells_cut l i l[i] (List.getElem?_eq_getElem hi)
  unfold numsT
  rw [e1, e2]
  show Good (ifK (kz d0 l[i].1 l[i].2) (byB (isnS l[i].1 l[i].2) _ _))
  rw [kz_0]
  show Good (byB (isnS l[i].1 l[i].2) _ _)
  cases hs : isnS l[i].1 l[i].2 with
  | false => exact good_gV (by decide) (by decide)
  | true =>
   have hs : (eqI l[i].1 4 && small l[i].2) = true := hs
   rw [Bool.and_eq_true] at hs
   refine nums_good hk n (i + 1) _ (by omega) (by rw [List.length_append, h2]; rfl) fun z hz => ?_
   rcases List.mem_append.1 hz with hz | hz
   ·exact h3 z hz
   ·rw [List.mem_singleton.1 hz]; exact hs.2
/-! ## What is known -/
abbrev XBS : Known := XB isnS ngS lsS lnS leS
theorem kXB : KnownOk Tryz.prog G2 XBS := ((kG2 kX3).add fun ar s E w vs h hG ha => k22a ar s E w vs h (G2_0 hG) ha).add k114z
theorem kYB {β : Type} : KnownKOk XBS (YB isnS ngS lsS lnS leS : KnownK β) := addK2 (addP kY3 22 FAr) 114 _
section
variable (P : Program)
abbrev sdS (ng : Bool) (a : List AV) (n : Nat) (t1 l1 mg : Bool) (b : List AV) (m : Nat) (t2 l2 : Bool) : Bool := isN (b72s P ng a n t1 l1 mg b m t2 l2)
abbrev sgS (ng : Bool) (a : List AV) (n : Nat) (t1 l1 mg : Bool) (b : List AV) (m : Nat) (t2 l2 : Bool) : Bool := gO (b72s P ng a n t1 l1 mg b m t2 l2)
abbrev snS (ng : Bool) (a : List AV) (n : Nat) (t1 l1 mg : Bool) (b : List AV) (m : Nat) (t2 l2 : Bool) : Bool := nO (b72s P ng a n t1 l1 mg b m t2 l2)
abbrev srS (ng : Bool) (a : List AV) (n : Nat) (t1 l1 mg : Bool) (b : List AV) (m : Nat) (t2 l2 : Bool) : List AV := rO (b72s P ng a n t1 l1 mg b m t2 l2)
abbrev skS (ng : Bool) (a : List AV) (n : Nat) (t1 l1 mg : Bool) (b : List AV) (m : Nat) (t2 l2 : Bool) : Nat := kO (b72s P ng a n t1 l1 mg b m t2 l2)
abbrev seS (ng : Bool) (a : List AV) (n : Nat) (t1 l1 mg : Bool) (b : List AV) (m : Nat) (t2 l2 : Bool) : Int := eO (b72s P ng a n t1 l1 mg b m t2 l2)
abbrev mdS (ng : Bool) (a : List AV) (n : Nat) (t1 l1 mg : Bool) (b : List AV) (m : Nat) (t2 l2 : Bool) : Bool := isNt (b73s P ng a n t1 l1 mg b m t2 l2)
abbrev mgS (ng : Bool) (a : List AV) (n : Nat) (t1 l1 mg : Bool) (b : List AV) (m : Nat) (t2 l2 : Bool) : Bool := gO (b73s P ng a n t1 l1 mg b m t2 l2)
abbrev mnS (ng : Bool) (a : List AV) (n : Nat) (t1 l1 mg : Bool) (b : List AV) (m : Nat) (t2 l2 : Bool) : Bool := nO (b73s P ng a n t1 l1 mg b m t2 l2)
abbrev mrS (ng : Bool) (a : List AV) (n : Nat) (t1 l1 mg : Bool) (b : List AV) (m : Nat) (t2 l2 : Bool) : List AV := rO (b73s P ng a n t1 l1 mg b m t2 l2)
abbrev mkS (ng : Bool) (a : List AV) (n : Nat) (t1 l1 mg : Bool) (b : List AV) (m : Nat) (t2 l2 : Bool) : Nat := kO (b73s P ng a n t1 l1 mg b m t2 l2)
abbrev meS (ng : Bool) (a : List AV) (n : Nat) (t1 l1 mg : Bool) (b : List AV) (m : Nat) (t2 l2 : Bool) : Int := eO (b73s P ng a n t1 l1 mg b m t2 l2)
abbrev ccS (ng : Bool) (a : List AV) (n : Nat) (t1 l1 mg : Bool) (b : List AV) (m : Nat) (t2 l2 : Bool) : Bool := isI (b76s P ng a n t1 l1 mg b m t2 l2)
abbrev cvS (ng : Bool) (a : List AV) (n : Nat) (t1 l1 mg : Bool) (b : List AV) (m : Nat) (t2 l2 : Bool) : Int := iO (b76s P ng a n t1 l1 mg b m t2 l2)
abbrev XAdd : Known := XA isnS ngS lsS lnS leS (adS P) (agS P) (anS P) (arS P) (akS P) (aeS P) icS itS ivS ieS iDS 70
abbrev YAdd {β : Type} : KnownK β := YA isnS ngS lsS lnS leS (adS P) (agS P) (anS P) (arS P) (akS P) (aeS P) icS itS ivS ieS iDS 70
abbrev XSub : Known := XA isnS ngS lsS lnS leS (sdS P) (sgS P) (snS P) (srS P) (skS P) (seS P) icS itS ivS ieS iDS 72
abbrev YSub {β : Type} : KnownK β := YA isnS ngS lsS lnS leS (sdS P) (sgS P) (snS P) (srS P) (skS P) (seS P) icS itS ivS ieS iDS 72
abbrev XMul : Known := XM isnS ngS lsS lnS leS (mdS P) (mgS P) (mnS P) (mrS P) (mkS P) (meS P) icS itS ivS ieS iDS 73
abbrev YMul {β : Type} : KnownK β := YM isnS ngS lsS lnS leS (mdS P) (mgS P) (mnS P) (mrS P) (mkS P) (meS P) icS itS ivS ieS iDS 73
abbrev XCmp : Known := XC isnS ngS lsS lnS leS (ccS P) (cvS P)
abbrev YCmp {β : Type} : KnownK β := YC isnS ngS lsS lnS leS (ccS P) (cvS P)
end
theorem zG2 {f : FuncId} {F : List AV → Option (Bool × AV)} (h : ZOk Tryz.prog G0 f F) : ZOk Tryz.prog G2 f F := fun ar s E w vs h1 h2 h3 => h ar s E w vs h1 (G2_0 h2) h3
theorem wG2 {f : FuncId} {F : List AV → Option (Bool × AV)} (h : WOk Tryz.prog G0 f F) : WOk Tryz.prog G2 f F := fun ar s E w vs h1 h2 h3 => h ar s E w vs h1 (G2_0 h2) h3
theorem k72s : WOk Tryz.prog G0 72 (F70v (sdS Tryz.prog) (sgS Tryz.prog) (snS Tryz.prog) (srS Tryz.prog) (skS Tryz.prog) (seS Tryz.prog)) := w_mono k72 fun ar x hF => by
 unfold F70v at hF
 split at hF
 ·exact hF
 ·cases hF
theorem k73s : ZOk Tryz.prog G0 73 (F70v (mdS Tryz.prog) (mgS Tryz.prog) (mnS Tryz.prog) (mrS Tryz.prog) (mkS Tryz.prog) (meS Tryz.prog)) := z_mono k73 fun ar x hF => by
 unfold F70v at hF
 split at hF
 ·exact hF
 ·cases hF
theorem k76s : ZOk Tryz.prog G0 76 (F76v (ccS Tryz.prog) (cvS Tryz.prog)) := z_mono k76 fun ar x hF => by
 unfold F76v at hF
 split at hF
 ·exact hF
 ·cases hF
theorem i69 : bodyY Tryz.prog G0 .none (.none : KnownK AV) 3 5 noLive Res.fresh0? 5 Tryz.prog.funcs[69]? [.int .i64 1] St.empty = some (.agg [.bool false, .lst [.int .u32 1] 1 false false]) := by kernel_rfl
theorem k69 : ZOk Tryz.prog G0 69 F69 := z_known (D := noLive) (m := 5) (loops := 3) (n := 5) hm hn G0_plain (KnownOk.none _ _) (KnownKOk.none _) fun ar x hF => by
 unfold F69 at hF
 split at hF
 case h_2 => cases hF
 rename_i n
 simp only [Option.some.injEq, Prod.mk.injEq] at hF
 obtain ⟨h1, rfl⟩ := hF
 have := eqI_of h1
 subst this
 exact i69
theorem kXAdd : KnownOk Tryz.prog G2 (XAdd Tryz.prog) := (kXB.add k18).add (wG2 (w_of_z k70s))
theorem kYAdd {β : Type} : KnownKOk (XAdd Tryz.prog) (YAdd Tryz.prog : KnownK β) := addH' (addK kYB 18 _) 70 (wK_le _)
theorem kXSub : KnownOk Tryz.prog G2 (XSub Tryz.prog) := (kXB.add k18).add (wG2 k72s)
theorem kYSub {β : Type} : KnownKOk (XSub Tryz.prog) (YSub Tryz.prog : KnownK β) := addH' (addK kYB 18 _) 72 (wK_le _)
theorem kXMul : KnownOk Tryz.prog G2 (XMul Tryz.prog) := ((kXB.add k18).add (zG2 k73s)).add (zG2 k69)
theorem kYMul {β : Type} : KnownKOk (XMul Tryz.prog) (YMul Tryz.prog : KnownK β) := addH' (addH' (addK kYB 18 _) 73 (zK_le _)) 69 (zK_le _)
theorem kXCmp : KnownOk Tryz.prog G2 (XCmp Tryz.prog) := kXB.add (zG2 k76s)
theorem kYCmp {β : Type} : KnownKOk (XCmp Tryz.prog) (YCmp Tryz.prog : KnownK β) := addH' kYB 76 (zK_le _)
/-! ## One behind the other -/
theorem add_good : ∀ (zs : List Int) (i : Int) (g : Bool) (r : List AV) (k : Nat) (t nl : Bool), (∀ z ∈ zs, small z = true) → 0 ≤ i → i + zs.length < 1000 → Num3 i g r k nl →
  Good (foldT ngS lsS lnS leS (adS Tryz.prog) (agS Tryz.prog) (anS Tryz.prog) (arS Tryz.prog) (akS Tryz.prog) (aeS Tryz.prog) icS itS ivS ieS iDS d0 zs g r k t nl)
 | [], i, g, r, k, t, nl, _, _, _, h => give_ok nums0 h.toN (by omega)
 | z :: zs, i, g, r, k, t, nl, hz, h0, hi, h => by
  obtain ⟨hq, hq2⟩ := num_small (hz z (by simp))
  have hi : i + (zs.length + 1 : Nat) < 1000 := hi
  obtain ⟨g', r', k', e, hN⟩ := add_ok (t1 := t) (t2 := false) (i := i) ⟨h0, by omega⟩ h hq hq2
  have ih := add_good zs (i + 1) g' r' k' false false (fun y hy => hz y (List.mem_cons_of_mem _ hy)) (by omega) (by omega) hN
  unfold foldT
  refine good_ifK (show AV.plains [nA g r k t nl, nA (ngS z) (lsS z) (lnS z) false (leS z)] = true from ?_) (good_ifK (show isN _ = true by rw [e]; rfl) ?_)
  ·show (AV.plain (nA g r k t nl) && (AV.plain (nA (ngS z) (lsS z) (lnS z) false (leS z)) && true)) = true
   rw [plain_num h.toN, plain_num hq.toN]; rfl
  ·unfold adS agS anS arS akS aeS at *
   rw [e]
   exact ih
theorem sub_good : ∀ (zs : List Int) (i : Int) (g : Bool) (r : List AV) (k : Nat) (t nl : Bool), (∀ z ∈ zs, small z = true) → 0 ≤ i → i + zs.length < 1000 → Num3 i g r k nl →
  Good (foldT ngS lsS lnS leS (sdS Tryz.prog) (sgS Tryz.prog) (snS Tryz.prog) (srS Tryz.prog) (skS Tryz.prog) (seS Tryz.prog) icS itS ivS ieS iDS d0 zs g r k t nl)
 | [], i, g, r, k, t, nl, _, _, _, h => give_ok nums0 h.toN (by omega)
 | z :: zs, i, g, r, k, t, nl, hz, h0, hi, h => by
  obtain ⟨hq, hq2⟩ := num_small (hz z (by simp))
  have hi : i + (zs.length + 1 : Nat) < 1000 := hi
  obtain ⟨g', r', k', e, hN⟩ := sub_ok (t1 := t) (t2 := false) (i := i) ⟨h0, by omega⟩ h hq hq2
  have ih := sub_good zs (i + 1) g' r' k' false false (fun y hy => hz y (List.mem_cons_of_mem _ hy)) (by omega) (by omega) hN
  unfold foldT
  refine good_ifK (show AV.plains [nA g r k t nl, nA (ngS z) (lsS z) (lnS z) false (leS z)] = true from ?_) (good_ifK (show isN _ = true by rw [e]; rfl) ?_)
  ·show (AV.plain (nA g r k t nl) && (AV.plain (nA (ngS z) (lsS z) (lnS z) false (leS z)) && true)) = true
   rw [plain_num h.toN, plain_num hq.toN]; rfl
  ·unfold sdS sgS snS srS skS seS at *
   rw [e]
   exact ih
theorem mul_good : ∀ (zs : List Int) (i : Nat) (g : Bool) (r : List AV) (k : Nat) (t nl : Bool), (∀ z ∈ zs, small z = true) → i + 2 * zs.length ≤ 61 → NumN i g r k nl →
  Good (foldM ngS lsS lnS leS (mdS Tryz.prog) (mgS Tryz.prog) (mnS Tryz.prog) (mrS Tryz.prog) (mkS Tryz.prog) (meS Tryz.prog) icS itS ivS ieS iDS d0 zs g r k t nl)
 | [], i, g, r, k, t, nl, _, hi, h => give_ok nums0 h (by omega)
 | z :: zs, i, g, r, k, t, nl, hz, hi, h => by
  obtain ⟨hq, hq2⟩ := num_small (hz z (by simp))
  have hi : i + 2 * (zs.length + 1) ≤ 61 := hi
  obtain ⟨g', r', k', t', e, hN⟩ := mul_ok (t1 := t) (t2 := false) (i := i) (by omega) h (⟨hq.snd, hq2, hq.nl⟩ : NumN 2 _ _ _ _)
  have ih := mul_good zs (i + 2) g' r' k' false false (fun y hy => hz y (List.mem_cons_of_mem _ hy)) (by omega) hN
  unfold foldM
  refine good_ifK (plain_num h) (good_ifK (plain_num hq.toN) (good_ifK (show isNt _ = true by rw [e]; rfl) ?_))
  unfold mdS mgS mnS mrS mkS meS at *
  rw [e]
  exact ih
theorem cmp_good (t : Int → Bool) : ∀ (zs : List Int), zs ≠ [] → (∀ z ∈ zs, small z = true) → Good (cmpsT ngS lsS lnS leS (ccS Tryz.prog) (cvS Tryz.prog) d0 t zs)
 | [], h, _ => absurd rfl h
 | [z], _, _ => good_gV (by decide) (by decide)
 | z :: w :: zs, _, hz => by
  obtain ⟨hq, _⟩ := num_small (hz z (by simp))
  obtain ⟨hr, _⟩ := num_small (hz w (by simp))
  obtain ⟨c, e⟩ := cmp_ok (t1 := false) (t2 := false) hq hr
  have ih := cmp_good t (w :: zs) (by simp) fun y hy => hz y (List.mem_cons_of_mem _ hy)
  unfold cmpsT
  exact good_ifK (plain_num hq.toN) (good_ifK (plain_num hr.toN) (good_ifK (show isI _ = true by rw [e]; rfl) (good_byB ih (good_gV (by decide) (by decide)))))
/-! ## They answer -/
section
variable (l : List V2) (h0 : l ≠ []) (hl : l.length ≤ 30) (hk : okAll 0 l = true)
include h0 hl hk
theorem pos_len : 1 ≤ l.length := by cases l with | nil => exact absurd rfl h0 | cons => simp
theorem ans_0 (ha : arOk 0 l.length = true) : Answered Tryz.prog 0 l := by
 refine ans_good kXAdd kYAdd (D := noLive) (m := 100) (loops := 90) (n := 20) (by decide) (by decide) hk ha ?_
 have e := a0 isnS ngS lsS lnS leS (adS Tryz.prog) (agS Tryz.prog) (anS Tryz.prog) (arS Tryz.prog) (akS Tryz.prog) (aeS Tryz.prog) icS itS ivS ieS iDS false d0 (cellsA l) l.length hl (pos_len l h0 hl hk)
 unfold ask0 apA at e
 rw [e]
 exact good_ifK (cellsA_plains l) (good_ifK (okp_of hl hk) (nums_good (fun zs hz hn => add_good zs 0 false [] 0 true true hz (by omega) (by omega) ⟨rfl, by decide, fun y hy => (by cases hy), fun hn => absurd rfl hn⟩) l.length 0 [] (by omega) rfl (fun z hz => by cases hz)))
theorem ans_1' (ha : arOk 1 l.length = true) : Answered Tryz.prog 1 l := by
 refine ans_good kXSub kYSub (D := noLive) (m := 100) (loops := 90) (n := 20) (by decide) (by decide) hk ha ?_
 have e := all1 isnS ngS lsS lnS leS (sdS Tryz.prog) (sgS Tryz.prog) (snS Tryz.prog) (srS Tryz.prog) (skS Tryz.prog) (seS Tryz.prog) icS itS ivS ieS iDS false d0 (cellsA l) l.length hl (pos_len l h0 hl hk)
 unfold ask1 apA at e
 rw [e]
 refine good_ifK (cellsA_plains l) (good_ifK (okp_of hl hk) (nums_good (fun zs hz hn => ?_) l.length 0 [] (by omega) rfl (fun z hz => by cases hz)))
 match zs, hn with
 | [], hn => exact absurd (List.eq_nil_of_length_eq_zero hn.symm) h0
 | [z], hn =>
  obtain ⟨hq, _⟩ := num_small (hz z (by simp))
  refine good_ifK (by rw [hq.same]; rfl) ?_
  exact sub_good [z] 0 false [] 0 true true hz (by omega) (by simp) ⟨rfl, by decide, fun y hy => (by cases hy), fun hn => absurd rfl hn⟩
 | z :: w :: zs, hn =>
  obtain ⟨hq, _⟩ := num_small (hz z (by simp))
  exact sub_good (w :: zs) 0 _ _ _ _ _ (fun y hy => hz y (List.mem_cons_of_mem _ hy)) (by omega) (by simp only [List.length_cons] at hn ⊢; omega) hq
theorem ans_2' (ha : arOk 2 l.length = true) : Answered Tryz.prog 2 l := by
 refine ans_good kXMul kYMul (D := noLive) (m := 100) (loops := 90) (n := 20) (by decide) (by decide) hk ha ?_
 have e := all2 isnS ngS lsS lnS leS (mdS Tryz.prog) (mgS Tryz.prog) (mnS Tryz.prog) (mrS Tryz.prog) (mkS Tryz.prog) (meS Tryz.prog) icS itS ivS ieS iDS false d0 (cellsA l) l.length hl (pos_len l h0 hl hk)
 unfold ask2 apM at e
 rw [e]
 exact good_ifK (cellsA_plains l) (good_ifK (okp_of hl hk) (nums_good (fun zs hz hn => mul_good zs 1 false [.int .u32 1] 1 false false hz (by omega) ⟨rfl, by decide, fun _ => rfl⟩) l.length 0 [] (by omega) rfl (fun z hz => by cases hz)))
theorem cmps_good (t : Int → Bool) : Good (ifK (AV.plain (.lst (cellsA l) l.length false false)) (ifK (okp d0 (cellsA l) l.length) (numsT isnS d0 (cellsA l) (fun zs => cmpsT ngS lsS lnS leS (ccS Tryz.prog) (cvS Tryz.prog) d0 t zs) l.length 0 []))) :=
 good_ifK (cellsA_plains l) (good_ifK (okp_of hl hk) (nums_good (fun zs hz hn => cmp_good t zs (fun h => by subst h; exact h0 (List.eq_nil_of_length_eq_zero hn.symm)) hz) l.length 0 [] (by omega) rfl (fun z hz => by cases hz)))
theorem ans_6 (ha : arOk 6 l.length = true) : Answered Tryz.prog 6 l := by
 refine ans_good kXCmp kYCmp (D := noLive) (m := 100) (loops := 90) (n := 20) (by decide) (by decide) hk ha ?_
 have e := a6 isnS ngS lsS lnS leS (ccS Tryz.prog) (cvS Tryz.prog) false d0 (cellsA l) l.length hl (pos_len l h0 hl hk)
 unfold ask6 apC at e
 rw [e]; exact cmps_good l h0 hl hk _
theorem ans_7 (ha : arOk 7 l.length = true) : Answered Tryz.prog 7 l := by
 refine ans_good kXCmp kYCmp (D := noLive) (m := 100) (loops := 90) (n := 20) (by decide) (by decide) hk ha ?_
 have e := a7 isnS ngS lsS lnS leS (ccS Tryz.prog) (cvS Tryz.prog) false d0 (cellsA l) l.length hl (pos_len l h0 hl hk)
 unfold ask7 apC at e
 rw [e]; exact cmps_good l h0 hl hk _
theorem ans_8 (ha : arOk 8 l.length = true) : Answered Tryz.prog 8 l := by
 refine ans_good kXCmp kYCmp (D := noLive) (m := 100) (loops := 90) (n := 20) (by decide) (by decide) hk ha ?_
 have e := a8 isnS ngS lsS lnS leS (ccS Tryz.prog) (cvS Tryz.prog) false d0 (cellsA l) l.length hl (pos_len l h0 hl hk)
 unfold ask8 apC at e
 rw [e]; exact cmps_good l h0 hl hk _
theorem ans_9 (ha : arOk 9 l.length = true) : Answered Tryz.prog 9 l := by
 refine ans_good kXCmp kYCmp (D := noLive) (m := 100) (loops := 90) (n := 20) (by decide) (by decide) hk ha ?_
 have e := a9 isnS ngS lsS lnS leS (ccS Tryz.prog) (cvS Tryz.prog) false d0 (cellsA l) l.length hl (pos_len l h0 hl hk)
 unfold ask9 apC at e
 rw [e]; exact cmps_good l h0 hl hk _
theorem ans_10 (ha : arOk 10 l.length = true) : Answered Tryz.prog 10 l := by
 refine ans_good kXCmp kYCmp (D := noLive) (m := 100) (loops := 90) (n := 20) (by decide) (by decide) hk ha ?_
 have e := a10 isnS ngS lsS lnS leS (ccS Tryz.prog) (cvS Tryz.prog) false d0 (cellsA l) l.length hl (pos_len l h0 hl hk)
 unfold ask10 apC at e
 rw [e]; exact cmps_good l h0 hl hk _
end
end Go.Am.Sto
end
section
namespace Go.Am.Sto
open Go Go.Am Go.Proofs
def F120 : List AV → Option (Bool × AV)
 | [.lst (.int .u8 c :: _) (_ + 1) _ false] => some (!leI 128 c, .tup [.int .i32 (IntKind.i32.wrap c), .int .i64 1])
 | _ => none
def X120 : Known := Known.none.add 165 (fun _ _ => .fail)
def Y120 {β : Type} : KnownK β := KnownK.none.add 165 noneK
theorem t120 (c : Int) (r : List AV) (n : Nat) (t : Bool) : bodyY Tryz.prog G0 X120 Y120 3 5 noLive Res.fresh0? 3 Tryz.prog.funcs[120]? [.lst (.int .u8 c :: r) (n + 1) t false] St.empty = byB (!leI 128 c) (some (.tup [.int .i32 (IntKind.i32.wrap c), .int .i64 1])) none := by kernel_rfl
def X95 : Known := (Known.none.add 38 (methX F38t)).add 120 (zX F120)
def Y95 {β : Type} : KnownK β := (KnownK.none.add 38 (methK F38t)).add 120 (zK F120)
def b95 (P : Program) (d : Hid) (u : AV) (l : List Nat) : Option R := bodyY P G0 X95 Y95 30 12 noLive Res.meth? 30 P.funcs[95]? [.ptrL [.hptr 0, u] 0, .str l] (St.one d)
def madeT (d : Hid) (acc : List V2) : Option R := byB (!eqI (mkOf d 4 acc).1.2 0) none (some (.agg [.int .i64 (mkOf d 4 acc).1.1.1, .int .i64 (mkOf d 4 acc).1.1.2], (mkOf d 4 acc).2))
def wriT (d : Hid) : List Nat → List V2 → Option R
 | [], acc => ifK (okAll d.rows.length acc && true) (madeT d acc)
 | c :: l, acc => ifK (!leI 128 (.ofNat c)) (byB (eqI (IntKind.i32.wrap (.ofNat c)) 65533) (madeT d []) (wriT d l (acc ++ [(5, IntKind.i64.wrap (IntKind.i32.wrap (.ofNat c)))])))
theorem t95 (d : Hid) (u : AV) : ∀ l : List Nat, l ≠ [] → l.length ≤ 20 → b95 Tryz.prog d u l = wriT d l []
 | [], h, _ => absurd rfl h
 | [c0], _, _ => by as_aux_lemma => kernel_rfl
 | [c0, c1], _, _ => by as_aux_lemma => kernel_rfl
 | [c0, c1, c2], _, _ => by as_aux_lemma => kernel_rfl
 | [c0, c1, c2, c3], _, _ => by as_aux_lemma => kernel_rfl
 | [c0, c1, c2, c3, c4], _, _ => by as_aux_lemma => kernel_rfl
 | [c0, c1, c2, c3, c4, c5], _, _ => by as_aux_lemma => kernel_rfl
 | [c0, c1, c2, c3, c4, c5, c6], _, _ => by as_aux_lemma => kernel_rfl
 | [c0, c1, c2, c3, c4, c5, c6, c7], _, _ => by as_aux_lemma => kernel_rfl
 | [c0, c1, c2, c3, c4, c5, c6, c7, c8], _, _ => by as_aux_lemma => kernel_rfl
 | [c0, c1, c2, c3, c4, c5, c6, c7, c8, c9], _, _ => by as_aux_lemma => kernel_rfl
 | [c0, c1, c2, c3, c4, c5, c6, c7, c8, c9, c10], _, _ => by as_aux_lemma => kernel_rfl
 | [c0, c1, c2, c3, c4, c5, c6, c7, c8, c9, c10, c11], _, _ => by as_aux_lemma => kernel_rfl
 | [c0, c1, c2, c3, c4, c5, c6, c7, c8, c9, c10, c11, c12], _, _ => by as_aux_lemma => kernel_rfl
 | [c0, c1, c2, c3, c4, c5, c6, c7, c8, c9, c10, c11, c12, c13], _, _ => by as_aux_lemma => kernel_rfl
 | [c0, c1, c2, c3, c4, c5, c6, c7, c8, c9, c10, c11, c12, c13, c14], _, _ => by as_aux_lemma => kernel_rfl
 | [c0, c1, c2, c3, c4, c5, c6, c7, c8, c9, c10, c11, c12, c13, c14, c15], _, _ => by as_aux_lemma => kernel_rfl
 | [c0, c1, c2, c3, c4, c5, c6, c7, c8, c9, c10, c11, c12, c13, c14, c15, c16], _, _ => by as_aux_lemma => kernel_rfl
 | [c0, c1, c2, c3, c4, c5, c6, c7, c8, c9, c10, c11, c12, c13, c14, c15, c16, c17], _, _ => by as_aux_lemma => kernel_rfl
 | [c0, c1, c2, c3, c4, c5, c6, c7, c8, c9, c10, c11, c12, c13, c14, c15, c16, c17, c18], _, _ => by as_aux_lemma => kernel_rfl
 | [c0, c1, c2, c3, c4, c5, c6, c7, c8, c9, c10, c11, c12, c13, c14, c15, c16, c17, c18, c19], _, _ => by as_aux_lemma => kernel_rfl
 | _ :: _ :: _ :: _ :: _ :: _ :: _ :: _ :: _ :: _ :: _ :: _ :: _ :: _ :: _ :: _ :: _ :: _ :: _ :: _ :: _ :: l, _, h => by simp only [List.length_cons] at h; omega
end Go.Am.Sto
end
section
namespace Go.Am.Sto
open Go Go.Am Go.Proofs
theorem kX120 : KnownOk Tryz.prog G0 X120 := (KnownOk.none _ _).add fun _ _ _ _ _ _ _ _ => trivial
theorem kY120 {β : Type} : KnownKOk X120 (Y120 : KnownK β) := addH' (KnownKOk.none _) 165 (noneK_le _)
theorem k120 : ZOk Tryz.prog G0 120 F120 := z_known (D := noLive) (m := 3) (loops := 3) (n := 5) hm hn G0_plain kX120 kY120 fun ar x hF => by
 unfold F120 at hF
 split at hF
 case h_2 => cases hF
 rename_i c r n t
 simp only [Option.some.injEq, Prod.mk.injEq] at hF
 obtain ⟨h1, rfl⟩ := hF
 exact (t120 c r n t).trans (byB_t h1 _ _)
theorem kX95 : KnownOk Tryz.prog G0 X95 := ((KnownOk.none _ _).add k38t).add k120
theorem kY95 {β : Type} : KnownKOk X95 (Y95 : KnownK β) := addH' (addK (KnownKOk.none _) 38 F38t) 120 (zK_le _)
def chs (l : List Nat) : List V2 := l.map fun c => (5, .ofNat c)
def asc (l : List Nat) : Bool := l.all fun c => Nat.blt c 128
theorem scal_asc : ∀ c : Nat, c < 128 → scal (.ofNat c) = true := by decide
theorem chs_ok (n : Nat) {l : List Nat} (h : asc l = true) : okAll n (chs l) = true := by
 unfold okAll chs
 rw [List.all_map, List.all_eq_true]
 intro c hc
 have := List.all_eq_true.1 h c hc
 exact scal_asc c (by simpa using this)
theorem i32w {c : Nat} (h : c < 128) : IntKind.i64.wrap (IntKind.i32.wrap (.ofNat c)) = .ofNat c ∧ eqI (IntKind.i32.wrap (.ofNat c)) 65533 = false := by
 have key : ∀ c : Nat, c < 128 → IntKind.i64.wrap (IntKind.i32.wrap (.ofNat c)) = .ofNat c ∧ eqI (IntKind.i32.wrap (.ofNat c)) 65533 = false := by decide
 exact key c h
theorem wriT_ok (d : Hid) : ∀ (l : List Nat) (acc : List V2), asc l = true → wriT d l acc = ifK (okAll d.rows.length (acc ++ chs l) && true) (madeT d (acc ++ chs l))
 | [], acc, _ => by show ifK _ _ = _; rw [show acc ++ chs [] = acc from List.append_nil acc]
 | c :: l, acc, h => by
  have h : (Nat.blt c 128 && asc l) = true := h
  rw [Bool.and_eq_true] at h
  have hc : c < 128 := by simpa using h.1
  obtain ⟨e1, e2⟩ := i32w hc
  unfold wriT
  rw [leI_f (show Int.ofNat c < 128 by simp only [Int.ofNat_eq_natCast]; omega), e1, e2]
  show wriT d l (acc ++ [(5, .ofNat c)]) = _
  rw [wriT_ok d l _ h.2, List.append_assoc]; rfl
def F95z (d : Hid) : List AV → Option (Bool × AV × Hid)
 | [.ptrL [.hptr 0, _] 0, .str l] => some (asc l && (Nat.ble 1 l.length && (Nat.ble l.length 20 && eqI (mkOf d 4 (chs l)).1.2 0)), .agg [.int .i64 (mkOf d 4 (chs l)).1.1.1, .int .i64 (mkOf d 4 (chs l)).1.1.2], (mkOf d 4 (chs l)).2)
 | _ => none
theorem k95 : MethOk Tryz.prog G0 95 F95z := meth_known (D := noLive) (m := 30) (loops := 30) (n := 12) hm hn G0_plain kX95 kY95 fun d ar x d' hF => by
 unfold F95z at hF
 split at hF
 case h_2 => cases hF
 rename_i u l
 simp only [Option.some.injEq, Prod.mk.injEq] at hF
 obtain ⟨h1, rfl, rfl⟩ := hF
 rw [Bool.and_eq_true, Bool.and_eq_true, Bool.and_eq_true] at h1
 obtain ⟨h1, h2, h3, h4⟩ := h1
 have hl0 : l ≠ [] := fun e => by subst e; cases h2
 refine (t95 d u l hl0 (Nat.le_of_ble_eq_true h3)).trans ?_
 rw [wriT_ok d l [] h1, List.nil_append, chs_ok _ h1]
 show madeT d (chs l) = _
 unfold madeT
 rw [h4]; rfl
/-! ## number->string -/
section
variable (isn : Int → Int → Bool) (ng : Int → Bool) (ls : Int → List AV) (ln : Int → Nat) (le : Int → Bool) (g : Bool → List AV → Nat → Bool → Bool) (t : Bool → List AV → List Nat) (wc : Hid → List Nat → Bool) (wt wn : Hid → List Nat → Int) (wD : Hid → List Nat → Hid)
def F95v (d : Hid) : List AV → Option (Bool × AV × Hid)
 | [.ptrL [.hptr 0, _] 0, .str l] => some (wc d l, .agg [.int .i64 (wt d l), .int .i64 (wn d l)], wD d l)
 | _ => none
def XNs : Known := ((XB isn ng ls ln le).add 60 (readX (F60v g t))).add 95 (methX (F95v wc wt wn wD))
def YNs {β : Type} : KnownK β := ((YB isn ng ls ln le).add 60 (txK g t)).add 95 (methK (F95v wc wt wn wD))
theorem w55 (tt : Bool) (d : Hid) (a b : Int) : bodyY Tryz.prog G2 (XNs isn ng ls ln le g t wc wt wn wD) (YNs isn ng ls ln le g t wc wt wn wD) 90 20 noLive Res.meth? 100 Tryz.prog.funcs[10]? [.hptr 0, .int .i64 55, .lst (v1 a b) 1 tt false] (St.one d) =
  ifK (okp d (v1 a b) 1) (ifK (kz d a b) (byB (isn a b) (ifK (g (ng b) (ls b) (ln b) (le b)) (ifK (wc d (t (ng b) (ls b))) (gV (wD d (t (ng b) (ls b))) (wt d (t (ng b) (ls b))) (wn d (t (ng b) (ls b))) 0))) (gV d 0 0 10))) := by kernel_rfl
end
abbrev wcS (d : Hid) (l : List Nat) : Bool := asc l && (Nat.ble 1 l.length && (Nat.ble l.length 20 && eqI (mkOf d 4 (chs l)).1.2 0))
abbrev wtS (d : Hid) (l : List Nat) : Int := (mkOf d 4 (chs l)).1.1.1
abbrev wnS (d : Hid) (l : List Nat) : Int := (mkOf d 4 (chs l)).1.1.2
abbrev wDS (d : Hid) (l : List Nat) : Hid := (mkOf d 4 (chs l)).2
theorem k95v : MethOk Tryz.prog G0 95 (F95v wcS wtS wnS wDS) := meth_mono k95 fun d ar x d' hF => by
 unfold F95v at hF
 split at hF
 ·exact hF
 ·cases hF
abbrev XTS : Known := XNs isnS ngS lsS lnS leS gTxt txtA wcS wtS wnS wDS
theorem kXNs : KnownOk Tryz.prog G2 XTS := (kXB.add (by rw [F60_eq]; exact k60)).add (kM2 k95v)
theorem kYNs {β : Type} : KnownKOk XTS (YNs isnS ngS lsS lnS leS gTxt txtA wcS wtS wnS wDS : KnownK β) := addK (addH' kYB 60 k60_le) 95 _
theorem asc_app {l m : List Nat} (h1 : asc l = true) (h2 : asc m = true) : asc (l ++ m) = true := by
 unfold asc at *
 rw [List.all_append, h1, h2]; rfl
theorem asc_itoa {a : Int} (h : inR a = true) : asc (itoaN a) = true := by
 unfold asc
 rw [List.all_eq_true]
 intro c hc
 rw [itoaN_eq (inR_iff.1 h).1] at hc
 obtain ⟨x, hx, rfl⟩ := List.mem_map.1 hc
 have hd := decDigits_dig _ x hx
 unfold isDig at hd
 have : x.toNat < 128 := by omega
 simpa using this
theorem asc_rep (n : Nat) : asc (List.replicate n 48) = true := by
 unfold asc
 rw [List.all_eq_true]
 intro c hc
 rw [(List.mem_replicate.1 hc).2]; rfl
theorem asc_sg (g : Bool) : asc (sg g) = true := by cases g <;> rfl
theorem txt_ok {neg nl : Bool} {cs : List AV} {n : Nat} (h : gTxt neg cs n nl = true) : asc (txtA neg cs) = true ∧ 1 ≤ (txtA neg cs).length ∧ (txtA neg cs).length ≤ 20 := by
 unfold gTxt at h
 rw [Bool.and_eq_true] at h
 obtain ⟨h1, h2⟩ := h
 unfold sndC at h1
 rw [Bool.and_eq_true] at h1
 obtain ⟨h3, h4⟩ := h1
 have hs : (sg neg).length ≤ 1 := by cases neg <;> decide
 unfold sndN at h3
 split at h3
 ·exact ⟨rfl, by show 1 ≤ 1; omega, by show 1 ≤ 20; omega⟩
 ·rename_i a
  have ha : inR a = true := by simpa [rngs] using h2
  have hl := itoaN_len ha
  have hp : 1 ≤ (itoaN a).length := List.length_pos_iff.2 (itoaN_ne ha)
  refine ⟨asc_app (asc_sg neg) (asc_itoa ha), ?_, ?_⟩
  ·show 1 ≤ (sg neg ++ itoaN a).length
   rw [List.length_append]; omega
  ·show (sg neg ++ itoaN a).length ≤ 20
   rw [List.length_append]; omega
 ·rename_i a b
  have hab : inR a = true ∧ inR b = true := by simpa [rngs] using h2
  obtain ⟨ha, hb⟩ := hab
  have hla := itoaN_len ha
  have hlb := itoaN_len hb
  have hp : 1 ≤ (itoaN a).length := List.length_pos_iff.2 (itoaN_ne ha)
  refine ⟨asc_app (asc_app (asc_app (asc_sg neg) (asc_itoa hb)) (asc_rep _)) (asc_itoa ha), ?_, ?_⟩
  ·show 1 ≤ (sg neg ++ itoaN b ++ List.replicate (9 - (itoaN a).length) 48 ++ itoaN a).length
   simp only [List.length_append, List.length_replicate]; omega
  ·show (sg neg ++ itoaN b ++ List.replicate (9 - (itoaN a).length) 48 ++ itoaN a).length ≤ 20
   simp only [List.length_append, List.length_replicate]; omega
 ·cases h3
theorem mk_str {l : List Nat} (h : asc l = true) (hl : l.length ≤ 20) : eqI (mkOf d0 4 (chs l)).1.2 0 = true := by
 unfold mkOf
 show eqI (byB (okAll 0 (chs l)) (byB (full 100 0 (chs l).length) (((0, 0), 16), d0) _) _ : (V2 × Int) × Hid).1.2 0 = true
 rw [chs_ok 0 h]
 have hlen : (chs l).length = l.length := by unfold chs; rw [List.length_map]
 rw [hlen]
 have : ∀ n : Nat, n ≤ 20 → full 100 0 n = false := by decide
 rw [this _ hl]; rfl
theorem ans_55 (l : List V2) (hk : okAll 0 l = true) (ha : arOk 55 l.length = true) : Answered Tryz.prog 55 l := by
 refine ans_1 (D := noLive) (m := 100) (loops := 90) (n := 20) kXNs kYNs (by decide) (by decide) rfl (fun a b h => ?_) l hk ha
 rw [w55]
 refine good_ifK (okp0_1 h) (good_ifK (kz_0 a b) ?_)
 cases hs : isnS a b with
 | false => exact good_gV (by decide) (by decide)
 | true =>
  have hs : (eqI a 4 && small b) = true := hs
  rw [Bool.and_eq_true] at hs
  have hg := (limbs_ok hs.2).1
  obtain ⟨h1, h2, h3⟩ := txt_ok hg
  refine good_ifK hg (good_ifK ?_ (good_gV (by decide) (by decide)))
  show (asc (txtA (ngS b) (lsS b)) && _) = true
  rw [h1, Nat.ble_eq_true_of_le h2, Nat.ble_eq_true_of_le h3, mk_str h1 h3]; rfl
end Go.Am.Sto
end
section
namespace Go.Am.Sto
open Go Go.Am Go.Proofs
theorem ans_most (l : List V2) (h0 : l ≠ []) (hl : l.length ≤ 30) (HD : ∀ op, (op = 3 ∨ op = 4 ∨ op = 5 ∨ op = 24) → okAll 0 l = true → arOk op l.length = true → Answered Tryz.prog op l) (op : Int) : Answered Tryz.prog op l := by
 by_cases h : op < 0 ∨ 64 ≤ op
 ·exact ans_out op l h
 cases hk : okAll 0 l with
 | false => exact ans_form op l (by omega) (by omega) hl hk
 | true =>
 cases ha : arOk op l.length with
 | false => exact ans_arity op l (by omega) (by omega) hl hk ha
 | true =>
 obtain ⟨k, rfl⟩ : ∃ k : Nat, op = .ofNat k := ⟨op.toNat, by simp only [Int.ofNat_eq_natCast]; omega⟩
 refine ans_in l h0 hl hk (fun op ho ha => ?_) k (by simp only [Int.ofNat_eq_natCast] at h; omega) ha
 rcases ho with rfl | rfl | ⟨h1, h2⟩
 ·exact HD 24 (by simp) hk ha
 ·exact ans_55 l hk ha
 ·obtain ⟨j, rfl⟩ : ∃ j : Nat, op = .ofNat j := ⟨op.toNat, by simp only [Int.ofNat_eq_natCast]; omega⟩
  match j, h2, ha with
  | 0, _, ha => exact ans_0 l h0 hl hk ha
  | 1, _, ha => exact ans_1' l h0 hl hk ha
  | 2, _, ha => exact ans_2' l h0 hl hk ha
  | 3, _, ha => exact HD 3 (by simp) hk ha
  | 4, _, ha => exact HD 4 (by simp) hk ha
  | 5, _, ha => exact HD 5 (by simp) hk ha
  | 6, _, ha => exact ans_6 l h0 hl hk ha
  | 7, _, ha => exact ans_7 l h0 hl hk ha
  | 8, _, ha => exact ans_8 l h0 hl hk ha
  | 9, _, ha => exact ans_9 l h0 hl hk ha
  | 10, _, ha => exact ans_10 l h0 hl hk ha
  | j + 11, h2, _ => simp only [Int.ofNat_eq_natCast] at h2; omega
end Go.Am.Sto
end
section
namespace Go.Am.Sto
open Go Go.Am Go.Proofs
def h10e (F : Hid → List AV → Option (Bool × AV × Hid)) (ar : List AV) (s : St) : Res := match ar with
 | [.nilp, .int .i64 _, .sl _ _ 0 _ _] => .ret (.tup [.agg [.int .i64 0, .int .i64 0], .int .i64 1]) s
 | [.hptr n, .int .i64 op, .sl _ _ 0 _ _] => methX F [.hptr n, .int .i64 op, .lst [] 0 false false] s
 | _ => .fail
def K10e {β : Type} (F : Hid → List AV → Option (Bool × AV × Hid)) (ar : List AV) (s : St) (kr : Res → Option β) : Option β := match ar with
 | [.nilp, .int .i64 _, .sl _ _ 0 _ _] => kr (.ret (.tup [.agg [.int .i64 0, .int .i64 0], .int .i64 1]) s)
 | [.hptr n, .int .i64 op, .sl _ _ 0 _ _] => methK F [.hptr n, .int .i64 op, .lst [] 0 false false] s kr
 | _ => none
section
variable (ca : Hid → List AV → Bool) (ta na ea : Hid → List AV → Int) (Da : Hid → List AV → Hid)
def X3e : Known := ((((Known.none.add 8 (newX F8c)).add 9 (pureX F9)).add 11 (readX F11)).add 12 (pureX FAr)).add 10 (h10e (apV ca ta na ea Da))
def Y3e {β : Type} : KnownK β := (KnownK.none.add 12 (pureK FAr)).add 10 (K10e (apV ca ta na ea Da))
def b3e (P : Program) (op : Int) (t nl : Bool) : Option AV := bodyY P G2 (X3e ca ta na ea Da) (Y3e ca ta na ea Da) 5 8 D3r Res.val? 40 P.funcs[3]? [.int .i64 op, .lst [] 0 t nl] St.empty
variable (op : Int) (t nl : Bool)
theorem t3e : b3e ca ta na ea Da Tryz.prog op t nl = ifK (ca (newHid 100) (aR op [] 0)) (byB (!leI 0 op) (out3 (ea (newHid 100) (aR op [] 0)) (ta (newHid 100) (aR op [] 0)) (na (newHid 100) (aR op [] 0)))
  (byB (leI 64 op) (out3 (ea (newHid 100) (aR op [] 0)) (ta (newHid 100) (aR op [] 0)) (na (newHid 100) (aR op [] 0))) (exit3 op 0 (ea (newHid 100) (aR op [] 0))))) := by kernel_rfl
end
end Go.Am.Sto
end
section
namespace Go.Am.Sto
open Go Go.Am Go.Proofs
theorem sl_empty {E : Env} {r off es : Nat} {t : Bool} {v : Value} (hv : VR E (.sl r off 0 es t) v) : VR E (.lst [] 0 false false) v := by
 cases hv with
 | sl hloc hle ht ha hsome =>
  rename_i b base cap a
  refine .lst .nil hle (fun e => by cases e) ?_ (fun e => absurd e hsome) (fun e => absurd rfl e)
  cases a with
  | none => exact absurd rfl hsome
  | some => rfl
theorem k10e {F : Hid → List AV → Option (Bool × AV × Hid)} (hF : MethOk Tryz.prog G2 10 F) : ∀ (args : List AV) (s : St) (E : Env) (w : World) (vs : List Value), Rel E s w → GlobOk E G2 w → VRL E args vs → ResOk Tryz.prog E s w 10 vs (h10e F args s) := by
 intro args s E w vs h hG ha
 unfold h10e
 split
 ·rename_i op r off es t
  cases ha with
  | cons a1 ha => cases ha with
   | cons a2 ha => cases ha with
    | cons a3 ha =>
     cases ha
     exact k10n [.nilp, .int .i64 op, .lst [] 0 false false] s E w _ h hG (.cons a1 (.cons a2 (.cons (sl_empty a3) .nil)))
 ·rename_i n op r off es t
  cases ha with
  | cons a1 ha => cases ha with
   | cons a2 ha => cases ha with
    | cons a3 ha =>
     cases ha
     exact hF [.hptr n, .int .i64 op, .lst [] 0 false false] s E w _ h hG (.cons a1 (.cons a2 (.cons (sl_empty a3) .nil)))
 ·trivial
theorem k10e_le {β : Type} (F : Hid → List AV → Option (Bool × AV × Hid)) (ar : List AV) (s : St) (kr kr' : Res → Option β) (h : ∀ r, Le (kr r) (kr' r)) : Le (K10e F ar s kr) (kr' (h10e F ar s)) := by
 unfold K10e h10e
 split
 ·exact h _
 ·exact methK_le F _ s kr kr' h
 ·exact .none _
section
variable (ca : Hid → List AV → Bool) (ta na ea : Hid → List AV → Int) (Da : Hid → List AV → Hid)
theorem kX3e (hF : MethOk Tryz.prog G2 10 (apV ca ta na ea Da)) : KnownOk Tryz.prog G2 (X3e ca ta na ea Da) :=
 (((((KnownOk.none _ _).add fun ar s E w vs h hG ha => k8c ar s E w vs h (G2_0 hG) ha).add fun ar s E w vs h hG ha => k9 ar s E w vs h (G2_0 hG) ha).add k11).add fun ar s E w vs h hG ha => k12a ar s E w vs h (G2_0 hG) ha).add (k10e hF)
theorem kY3e {β : Type} : KnownKOk (X3e ca ta na ea Da) (Y3e ca ta na ea Da : KnownK β) := addH' (addP (KnownKOk.none _) 12 FAr) 10 (k10e_le _)
end
theorem law3e (op : Int) (tt nl : Bool) (h : Answered Tryz.prog op []) :
  ∃ ca ta na ea Da, MethOk Tryz.prog G2 10 (apV ca ta na ea Da) ∧ b3e ca ta na ea Da Tryz.prog op tt nl = some (.bool true) := by
 obtain ⟨t, n, e, d', hs, hq⟩ := h
 refine ⟨caAt (aR op [] 0), fun _ _ => t, fun _ _ => n, fun _ _ => e, fun _ _ => d', says_meth fun d ar x d1 hF => ?_, ?_⟩
 ·unfold apV at hF
  simp only [Option.some.injEq, Prod.mk.injEq] at hF
  obtain ⟨h1, rfl, rfl⟩ := hF
  obtain ⟨rfl, rfl⟩ := (caAt_iff _ _ _).1 h1
  exact hs
 ·rw [t3e]
  refine (ifK_t ((caAt_iff _ _ _).2 ⟨rfl, rfl⟩) _).trans ?_
  obtain ⟨ho, hi⟩ := hq
  have outs : (op < 0 ∨ 64 ≤ op) → out3 e t n = some (.bool true) := fun hx => by
   obtain ⟨e1, e2, e3⟩ := ho hx
   rw [e1, e2, e3]; rfl
  by_cases h1 : op < 0
  ·exact (byB_t (by rw [leI_f h1]; rfl) _ _).trans (outs (.inl h1))
  refine (byB_f (by rw [leI_t (show (0 : Int) ≤ op by omega)]; rfl) _ _).trans ?_
  by_cases h2 : 64 ≤ op
  ·exact (byB_t (leI_t h2) _ _).trans (outs (.inr h2))
  refine (byB_f (leI_f (by omega)) _ _).trans ?_
  obtain ⟨_, hr⟩ := hi (by omega) (by omega)
  obtain ⟨g1, g2⟩ := hr rfl
  cases ha : arOk op 0 with
  | false =>
   rw [arOk_f ha]
   have := g1 ha
   rw [this]; rfl
  | true =>
   rw [arOk_t ha]
   obtain ⟨g3, g4⟩ := g2 ha
   show byB (!eqI e 11) (some (.bool (!eqI e 2))) N4 = _
   rw [eqI_no g3, eqI_no g4]; rfl
end Go.Am.Sto
end
