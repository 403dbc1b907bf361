/- A primitive is applied: places, boxes, what is set. -/
import Derived.Test.YtlibahklbbachaaGreatDoorApp
import Derived.Test.YtlibahklbbachaaGreatDoorSto3
import Derived.Test.YtlibahklbbachaaGreatDoorAto2
import Derived.Test.YtlibahklbbachaaGreatDoorRev
section
set_option autoImplicit false
set_option maxRecDepth 100000
namespace Go.Am.Sto
open Go Go.Am Go.Proofs

/-- a slot is set; the places as ints -/
def setOkI (d : Hid) (i j : Int) (x : V2) : Bool := match i, j with | .ofNat i, .ofNat j => setOk d i j x | _, _ => false
def setOfI (d : Hid) (i j : Int) (x : V2) : Hid := match i, j with | .ofNat i, .ofNat j => setOf d i j x | _, _ => d
def F81i (d : Hid) : List AV → Option (Bool × AV × Hid)
  | [.hptr 0, .agg [.int .i64 7, .int .i64 i], .int .i64 j, .agg [.int .i64 t, .int .i64 n]] => some (setOkI d i j (t, n), .int .i64 0, setOfI d i j (t, n))
  | _ => none
def F38y := orF F38x F38b
def numV (c : Int → Bool) (ng : Int → Bool) (ls : Int → List AV) (ln : Int → Nat) (le : Int → Bool) (d : Hid) : List AV → Option (Bool × AV × Hid)
  | [.hptr 0, .agg [.int .i64 4, .int .i64 z]] => some (c z, .tup [.agg [.bool (ng z), .lst (ls z) (ln z) false (le z)], .int .i64 0], d)
  | _ => none
def F36v (g : Bool → List AV → Nat → Bool → Bool) (v : Bool → List AV → Int) : List AV → Option AV
  | [.agg [.bool neg, .lst cs n _ nl]] => bif g neg cs n nl then some (.tup [.int .i64 (v neg cs), .bool true]) else none
  | _ => none
def smK {β : Type} (g : Bool → List AV → Nat → Bool → Bool) (v : Bool → List AV → Int) (ar : List AV) (s : St) (kr : Res → Option β) : Option β := match ar with
  | [.agg [.bool neg, .lst cs n _ nl]] => ifK (g neg cs n nl) (kr (.ret (.tup [.int .i64 (v neg cs), .bool true]) s))
  | _ => none
section
variable (c ng : Int → Bool) (ls : Int → List AV) (ln : Int → Nat) (le : Int → Bool) (g : Bool → List AV → Nat → Bool → Bool) (v : Bool → List AV → Int)
def X5 : Known := (((X3.add 38 (methX F38y)).add 81 (methX F81i)).add 114 (methX (numV c ng ls ln le))).add 36 (readX (F36v g v))
def Y5 {β : Type} : KnownK β := (((Y3.add 38 (methK F38y)).add 81 (methK F81i)).add 114 (methK (numV c ng ls ln le))).add 36 (smK g v)
def ap5 (P : Program) (d : Hid) (op : Int) (cs : List AV) (n : Nat) (tt : Bool) : Option R := bodyY P G2 (X5 c ng ls ln le g v) (Y5 c ng ls ln le g v) 90 20 noLive Res.meth? 100 P.funcs[10]? [.hptr 0, .int .i64 op, .lst cs n tt false] (St.one d)
end
end Go.Am.Sto
end
section
set_option autoImplicit false
set_option maxRecDepth 100000
namespace Go.Am.Sto
open Go Go.Am Go.Proofs

abbrev aV (a b : Int) : AV := .agg [.int .i64 a, .int .i64 b]
abbrev sm (x : AV) : Bool := AV.same x x
abbrev v3 (a b c e f h : Int) : List AV := [.int .i64 a, .int .i64 b, .int .i64 c, .int .i64 e, .int .i64 f, .int .i64 h]
abbrev gE (d : Hid) (p : V2 × Int) : Option R := byB (!eqI p.2 0) (gV d 0 0 p.2) (gV d p.1.1 p.1.2 0)
section
variable (c ng : Int → Bool) (ls : Int → List AV) (ln : Int → Nat) (le : Int → Bool) (g : Bool → List AV → Nat → Bool → Bool) (v : Bool → List AV → Int)
variable (d : Hid) (tt : Bool) (i z t n a b : Int)
theorem t12 : ap5 c ng ls ln le g v Tryz.prog d 12 (v2 a b t n) 2 tt = ifK (okp d (v2 a b t n) 2) (mV (mkOf d 1 [(a, b), (t, n)])) := by kernel_rfl
theorem t49 : ap5 c ng ls ln le g v Tryz.prog d 49 (v1 a b) 1 tt = ifK (okp d (v1 a b) 1) (mV (mkOf d 3 [(a, b)])) := by kernel_rfl
theorem t13a : ap5 c ng ls ln le g v Tryz.prog d 13 (v1 a b) 1 tt = ifK (okp d (v1 a b) 1) (byB (!eqI (kindOf d.rows a b) 1) (gV d 0 0 10) (gE d (getO d a b 0))) := by kernel_rfl
theorem t14a : ap5 c ng ls ln le g v Tryz.prog d 14 (v1 a b) 1 tt = ifK (okp d (v1 a b) 1) (byB (!eqI (kindOf d.rows a b) 1) (gV d 0 0 10) (gE d (getO d a b 1))) := by kernel_rfl
theorem t50 : ap5 c ng ls ln le g v Tryz.prog d 50 (v1 a b) 1 tt = ifK (okp d (v1 a b) 1) (byB (!eqI (kindOf d.rows a b) 3) (gV d 0 0 10) (gE d (getO d a b 0))) := by kernel_rfl
abbrev sT (k : Int) (j : Int) : Option R := ifK (okp d (v2 7 i t n) 2) (byB (!eqI (kindOf d.rows 7 i) k) (gV d 0 0 10) (ifK (sm (.lst (v2 7 i t n) 2 tt false) && (sm (aV t n) && true)) (ifK (setOkI d i j (t, n)) (gV (setOfI d i j (t, n)) 3 0 0))))
theorem t16a : ap5 c ng ls ln le g v Tryz.prog d 16 (v2 7 i t n) 2 tt = sT d tt i t n 1 1 := by kernel_rfl
theorem t51 : ap5 c ng ls ln le g v Tryz.prog d 51 (v2 7 i t n) 2 tt = sT d tt i t n 3 0 := by kernel_rfl
theorem t25 : ap5 c ng ls ln le g v Tryz.prog d 25 (v2 7 i 4 z) 2 tt = ifK (okp d (v2 7 i 4 z) 2) (byB (!eqI (kindOf d.rows 7 i) 2) (gV d 0 0 10) (ifK (sm (aV 7 i) && true) (ifK (c z) (ifK (g (ng z) (ls z) (ln z) (le z))
    (byB (!leI 0 (v (ng z) (ls z))) (gV d 0 0 12) (byB (leI (lenOf d.rows 7 i) (v (ng z) (ls z))) (gV d 0 0 12) (ifK (sm (aV 7 i) && true) (gE d (getO d 7 i (v (ng z) (ls z)))))))))))  := by kernel_rfl
theorem t26 : ap5 c ng ls ln le g v Tryz.prog d 26 (v3 7 i 4 z t n) 3 tt = ifK (okp d (v3 7 i 4 z t n) 3) (byB (!eqI (kindOf d.rows 7 i) 2) (gV d 0 0 10) (ifK (sm (aV 7 i) && (sm (.lst (v3 7 i 4 z t n) 3 tt false) && (sm (aV t n) && true)))
    (ifK (c z) (ifK (g (ng z) (ls z) (ln z) (le z)) (byB (!leI 0 (v (ng z) (ls z))) (gV d 0 0 12) (byB (leI (lenOf d.rows 7 i) (v (ng z) (ls z))) (gV d 0 0 12)
      (ifK (sm (aV 7 i) && (sm (.lst (v3 7 i 4 z t n) 3 tt false) && (sm (aV t n) && true))) (ifK (setOkI d i (v (ng z) (ls z)) (t, n)) (gV (setOfI d i (v (ng z) (ls z)) (t, n)) 3 0 0))))))))) := by kernel_rfl
end
end Go.Am.Sto
end
section
set_option autoImplicit false
set_option maxRecDepth 100000
namespace Go.Am.Sto
open Go Go.Am Go.Proofs

theorem kM2 {f : FuncId} {F : Hid → List AV → Option (Bool × AV × Hid)} (h : MethOk Tryz.prog G0 f F) : MethOk Tryz.prog G2 f F := fun ar s E w vs h1 h2 h3 => h ar s E w vs h1 (G2_0 h2) h3
theorem k81i : MethOk Tryz.prog G0 81 F81i := by
  intro args s E w vs h1 hG ha
  have k := k81 args s E w vs h1 hG ha
  unfold methX at k ⊢
  split
  · rename_i n hn
    simp only [hn] at k
    split
    · rename_i d hd
      simp only [hd] at k
      split
      · rename_i p hp
        obtain ⟨br, q1, q2⟩ := convML_eq (δ := Bool × AV × Hid) hp
        rw [q2] at k
        obtain ⟨cc, x, d'⟩ := p
        cases cc with
        | false => trivial
        | true =>
          have : F81 d br = some (true, x, d') := by
            unfold F81i at q1
            split at q1
            case h_2 => cases q1
            rename_i i j t m
            simp only [Option.some.injEq, Prod.mk.injEq] at q1
            obtain ⟨e1, rfl, rfl⟩ := q1
            unfold setOkI at e1
            split at e1
            · rename_i i j
              show some (setOk d i j (t, m), AV.int .i64 0, setOf d i j (t, m)) = _
              rw [e1]; rfl
            · cases e1
          rw [this] at k; exact k
      · trivial
    · trivial
  · trivial
abbrev ngS (z : Int) : Bool := decide (z < 0)
abbrev lsS (z : Int) : List AV := (limbs z.natAbs).map (AV.int .u32)
abbrev lnS (z : Int) : Nat := (limbs z.natAbs).length
abbrev leS (z : Int) : Bool := (limbs z.natAbs).isEmpty
abbrev XV : Known := X5 small ngS lsS lnS leS gTxt valA
abbrev YV {β : Type} : KnownK β := Y5 small ngS lsS lnS leS gTxt valA
theorem numV_eq : numV small ngS lsS lnS leS = F114 := by
  funext d ar
  unfold numV F114
  rfl
theorem F36_eq : F36v gTxt valA = F36 := by
  funext ar
  unfold F36v F36
  rfl
theorem k36_le {β : Type} (ar : List AV) (s : St) (kr kr' : Res → Option β) (h : ∀ r, Le (kr r) (kr' r)) : Le (smK gTxt valA ar s kr) (kr' (readX (F36v gTxt valA) ar s)) := by
  unfold smK
  split
  · rename_i neg cs n tt nl
    refine Le.ifK fun hc => ?_
    rw [readX_agg (F := F36v gTxt valA) (sndC_num (gTxt_snd hc)) (by show (bif gTxt neg cs n nl then some (AV.tup [.int .i64 (valA neg cs), .bool true]) else none) = _; rw [hc]; rfl)]
    exact h _
  · exact .none _
theorem k38y : MethOk Tryz.prog G0 38 F38y := meth_or k38x k38b
theorem kXV : KnownOk Tryz.prog G2 XV := ((((kG2 kX3).add (kM2 k38y)).add (kM2 k81i)).add (by rw [numV_eq]; exact k114)).add (by rw [F36_eq]; exact k36)
theorem kYV {β : Type} : KnownKOk XV (YV : KnownK β) := addH' (addK (addK (addK kY3 38 F38y) 81 F81i) 114 _) 36 k36_le

/-! ## What they give -/
def P12 (d : Hid) : List AV → Option (Bool × AV × Hid)
  | [.hptr 0, .int .i64 12, .lst [.int .i64 a, .int .i64 b, .int .i64 c, .int .i64 e] 2 _ false] => some (okp d (v2 a b c e) 2 && eqI (mkOf d 1 [(a, b), (c, e)]).1.2 0, getV (mkOf d 1 [(a, b), (c, e)]).1, (mkOf d 1 [(a, b), (c, e)]).2)
  | _ => none
def P49 (d : Hid) : List AV → Option (Bool × AV × Hid)
  | [.hptr 0, .int .i64 49, .lst [.int .i64 a, .int .i64 b] 1 _ false] => some (okp d (v1 a b) 1 && eqI (mkOf d 3 [(a, b)]).1.2 0, getV (mkOf d 3 [(a, b)]).1, (mkOf d 3 [(a, b)]).2)
  | _ => none
def getP (op k j : Int) (d : Hid) : List AV → Option (Bool × AV × Hid)
  | [.hptr 0, .int .i64 o, .lst [.int .i64 a, .int .i64 b] 1 _ false] => bif eqI o op then some (okp d (v1 a b) 1 && (eqI (kindOf d.rows a b) k && eqI (getO d a b j).2 0), getV (getO d a b j), d) else none
  | _ => none
def setP (op k j : Int) (d : Hid) : List AV → Option (Bool × AV × Hid)
  | [.hptr 0, .int .i64 o, .lst [.int .i64 7, .int .i64 i, .int .i64 t, .int .i64 n] 2 _ false] => bif eqI o op then some (okp d (v2 7 i t n) 2 && (eqI (kindOf d.rows 7 i) k && setOkI d i j (t, n)), gA 3 0 0, setOfI d i j (t, n)) else none
  | _ => none
/-- is it a place? -/
def inL (d : Hid) (i z : Int) : Bool := leI 0 z && !leI (lenOf d.rows 7 i) z
def P25 (d : Hid) : List AV → Option (Bool × AV × Hid)
  | [.hptr 0, .int .i64 25, .lst [.int .i64 7, .int .i64 i, .int .i64 4, .int .i64 z] 2 _ false] => some (okp d (v2 7 i 4 z) 2 && (eqI (kindOf d.rows 7 i) 2 && (small z && byB (inL d i z) (eqI (getO d 7 i z).2 0) true)), byB (inL d i z) (getV (getO d 7 i z)) (gA 0 0 12), d)
  | _ => none
def P26 (d : Hid) : List AV → Option (Bool × AV × Hid)
  | [.hptr 0, .int .i64 26, .lst [.int .i64 7, .int .i64 i, .int .i64 4, .int .i64 z, .int .i64 t, .int .i64 n] 3 _ false] =>
    some (okp d (v3 7 i 4 z t n) 3 && (eqI (kindOf d.rows 7 i) 2 && (small z && byB (inL d i z) (setOkI d i z (t, n)) true)), byB (inL d i z) (gA 3 0 0) (gA 0 0 12), byB (inL d i z) (setOfI d i z (t, n)) d)
  | _ => none
theorem eqI_of : ∀ {a b : Int}, eqI a b = true → a = b
  | .ofNat a, .ofNat b, h => by rw [Nat.eq_of_beq_eq_true (show a.beq b = true from h)]
  | .negSucc a, .negSucc b, h => by rw [Nat.eq_of_beq_eq_true (show a.beq b = true from h)]
  | .ofNat _, .negSucc _, h => by cases h
  | .negSucc _, .ofNat _, h => by cases h
theorem gE_ok {d : Hid} {p : V2 × Int} (h : eqI p.2 0 = true) : gE d p = some (getV p, d) := by
  have := eqI_of h
  obtain ⟨p, e⟩ := p
  cases this
  rfl
theorem sm_v (a b : Int) : sm (aV a b) = true := by
  show ((kindEq .i64 .i64 && eqI a a) && ((kindEq .i64 .i64 && eqI b b) && true)) = true
  rw [eqI_self, eqI_self]; rfl
theorem sm_2 (a b c e : Int) (tt : Bool) : sm (.lst (v2 a b c e) 2 tt false) = true := same_lst [(a, b), (c, e)] 2 tt false
theorem sm_3 (a b c e f h : Int) (tt : Bool) : sm (.lst (v3 a b c e f h) 3 tt false) = true := same_lst [(a, b), (c, e), (f, h)] 3 tt false
theorem k10_12 : MethOk Tryz.prog G2 10 P12 := meth_known (D := noLive) (m := 100) (loops := 90) (n := 20) hm hn G2_plain kXV kYV fun d ar x d' hF => by
  unfold P12 at hF
  split at hF
  case h_2 => cases hF
  rename_i a b c e tt
  simp only [Option.some.injEq, Prod.mk.injEq] at hF
  obtain ⟨h1, rfl, rfl⟩ := hF
  obtain ⟨p1, p2⟩ := Bool.and_eq_true_iff.1 h1
  refine (t12 _ _ _ _ _ _ _ d tt c e a b).trans ?_
  rw [p1]; exact mV_ok p2
theorem k10_49 : MethOk Tryz.prog G2 10 P49 := meth_known (D := noLive) (m := 100) (loops := 90) (n := 20) hm hn G2_plain kXV kYV fun d ar x d' hF => by
  unfold P49 at hF
  split at hF
  case h_2 => cases hF
  rename_i a b tt
  simp only [Option.some.injEq, Prod.mk.injEq] at hF
  obtain ⟨h1, rfl, rfl⟩ := hF
  obtain ⟨p1, p2⟩ := Bool.and_eq_true_iff.1 h1
  refine (t49 _ _ _ _ _ _ _ d tt a b).trans ?_
  rw [p1]; exact mV_ok p2
theorem getP_known {op k j : Int} (ht : ∀ (d : Hid) (tt : Bool) (a b : Int), ap5 small ngS lsS lnS leS gTxt valA Tryz.prog d op (v1 a b) 1 tt = ifK (okp d (v1 a b) 1) (byB (!eqI (kindOf d.rows a b) k) (gV d 0 0 10) (gE d (getO d a b j)))) : MethOk Tryz.prog G2 10 (getP op k j) :=
  meth_known (D := noLive) (m := 100) (loops := 90) (n := 20) hm hn G2_plain kXV kYV fun d ar x d' hF => by
  unfold getP at hF
  split at hF
  case h_2 => cases hF
  rename_i o a b tt
  cases ho : eqI o op with
  | false => rw [ho] at hF; cases hF
  | true =>
  rw [ho] at hF
  simp only [cond_true, Option.some.injEq, Prod.mk.injEq] at hF
  obtain ⟨h1, rfl, rfl⟩ := hF
  obtain ⟨p1, h1⟩ := Bool.and_eq_true_iff.1 h1
  obtain ⟨p2, p3⟩ := Bool.and_eq_true_iff.1 h1
  obtain rfl := eqI_of ho
  refine (ht d tt a b).trans ?_
  rw [p1, p2]; exact gE_ok p3
theorem setP_known {op k j : Int} (ht : ∀ (d : Hid) (tt : Bool) (i t n : Int), ap5 small ngS lsS lnS leS gTxt valA Tryz.prog d op (v2 7 i t n) 2 tt = sT d tt i t n k j) : MethOk Tryz.prog G2 10 (setP op k j) :=
  meth_known (D := noLive) (m := 100) (loops := 90) (n := 20) hm hn G2_plain kXV kYV fun d ar x d' hF => by
  unfold setP at hF
  split at hF
  case h_2 => cases hF
  rename_i o i t n tt
  cases ho : eqI o op with
  | false => rw [ho] at hF; cases hF
  | true =>
  rw [ho] at hF
  simp only [cond_true, Option.some.injEq, Prod.mk.injEq] at hF
  obtain ⟨h1, rfl, rfl⟩ := hF
  obtain ⟨p1, h1⟩ := Bool.and_eq_true_iff.1 h1
  obtain ⟨p2, p3⟩ := Bool.and_eq_true_iff.1 h1
  obtain rfl := eqI_of ho
  refine (ht d tt i t n).trans ?_
  unfold sT
  rw [p1, p2, sm_2, sm_v, p3]; rfl
theorem k10_13 : MethOk Tryz.prog G2 10 (getP 13 1 0) := getP_known fun d tt a b => t13a _ _ _ _ _ _ _ d tt a b
theorem k10_14 : MethOk Tryz.prog G2 10 (getP 14 1 1) := getP_known fun d tt a b => t14a _ _ _ _ _ _ _ d tt a b
theorem k10_50 : MethOk Tryz.prog G2 10 (getP 50 3 0) := getP_known fun d tt a b => t50 _ _ _ _ _ _ _ d tt a b
theorem k10_16 : MethOk Tryz.prog G2 10 (setP 16 1 1) := setP_known fun d tt i t n => t16a _ _ _ _ _ _ _ d tt i t n
theorem k10_51 : MethOk Tryz.prog G2 10 (setP 51 3 0) := setP_known fun d tt i t n => t51 _ _ _ _ _ _ _ d tt i t n
theorem k10_25 : MethOk Tryz.prog G2 10 P25 := meth_known (D := noLive) (m := 100) (loops := 90) (n := 20) hm hn G2_plain kXV kYV fun d ar x d' hF => by
  unfold P25 at hF
  split at hF
  case h_2 => cases hF
  rename_i i z tt
  simp only [Option.some.injEq, Prod.mk.injEq] at hF
  obtain ⟨h1, rfl, rfl⟩ := hF
  obtain ⟨p1, h1⟩ := Bool.and_eq_true_iff.1 h1
  obtain ⟨p2, h1⟩ := Bool.and_eq_true_iff.1 h1
  obtain ⟨p3, p4⟩ := Bool.and_eq_true_iff.1 h1
  obtain ⟨l1, l2⟩ := limbs_ok p3
  refine (t25 _ _ _ _ _ _ _ d tt i z).trans ?_
  rw [l2, p1, p2, sm_v, p3, show gTxt (ngS z) (lsS z) (lnS z) (leS z) = true from l1]
  unfold inL at p4 ⊢
  cases h0 : leI 0 z with
  | false => rfl
  | true =>
    rw [h0] at p4
    cases h2 : leI (lenOf d.rows 7 i) z with
    | true => rfl
    | false =>
      rw [h2] at p4
      exact gE_ok p4
theorem k10_26 : MethOk Tryz.prog G2 10 P26 := meth_known (D := noLive) (m := 100) (loops := 90) (n := 20) hm hn G2_plain kXV kYV fun d ar x d' hF => by
  unfold P26 at hF
  split at hF
  case h_2 => cases hF
  rename_i i z t n tt
  simp only [Option.some.injEq, Prod.mk.injEq] at hF
  obtain ⟨h1, rfl, rfl⟩ := hF
  obtain ⟨p1, h1⟩ := Bool.and_eq_true_iff.1 h1
  obtain ⟨p2, h1⟩ := Bool.and_eq_true_iff.1 h1
  obtain ⟨p3, p4⟩ := Bool.and_eq_true_iff.1 h1
  obtain ⟨l1, l2⟩ := limbs_ok p3
  refine (t26 _ _ _ _ _ _ _ d tt i z t n).trans ?_
  rw [l2, p1, p2, sm_v, sm_3, sm_v, p3, show gTxt (ngS z) (lsS z) (lnS z) (leS z) = true from l1]
  unfold inL at p4 ⊢
  cases h0 : leI 0 z with
  | false => rfl
  | true =>
    rw [h0] at p4
    cases h2 : leI (lenOf d.rows 7 i) z with
    | true => rfl
    | false =>
      rw [h2] at p4
      have p4 : setOkI d i z (t, n) = true := p4
      rw [p4]; rfl
def P10v := orF P10 (orF P12 (orF P49 (orF (getP 13 1 0) (orF (getP 14 1 1) (orF (getP 50 3 0) (orF (setP 16 1 1) (orF (setP 51 3 0) (orF P25 P26))))))))
theorem k10v2 : MethOk Tryz.prog G2 10 P10v := meth_or (kM2 k10) (meth_or k10_12 (meth_or k10_49 (meth_or k10_13 (meth_or k10_14 (meth_or k10_50 (meth_or k10_16 (meth_or k10_51 (meth_or k10_25 k10_26))))))))
end Go.Am.Sto
end
