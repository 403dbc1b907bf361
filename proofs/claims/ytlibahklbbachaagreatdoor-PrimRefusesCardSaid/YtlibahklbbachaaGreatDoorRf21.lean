import Derived.Test.YtlibahklbbachaaGreatDoorRf20
set_option autoImplicit false
set_option maxRecDepth 100000
set_option linter.unusedSimpArgs false
set_option linter.unusedVariables false
section
namespace Go.Am.Sto
open Go Go.Am Go.Proofs
def arOk (op : Int) (n : Nat) : Bool := leI (arOf op).1 (.ofNat n) && (!leI 0 (arOf op).2 || leI (.ofNat n) (arOf op).2)
structure Facts (ca : Hid → List AV → Bool) (ta na ea : Hid → List AV → Int) (op : Int) (l : List V2) : Prop where
 def_ : ca d0 (aR op (cellsA l) l.length) = true
 out : (op < 0 ∨ 64 ≤ op) → ta d0 (aR op (cellsA l) l.length) = 0 ∧ na d0 (aR op (cellsA l) l.length) = 0 ∧ ea d0 (aR op (cellsA l) l.length) = 1
 form : 0 ≤ op → op < 64 → okAll 0 l = false → ea d0 (aR op (cellsA l) l.length) = 2
 arity : 0 ≤ op → op < 64 → okAll 0 l = true → arOk op l.length = false → ea d0 (aR op (cellsA l) l.length) = 11
 good : 0 ≤ op → op < 64 → okAll 0 l = true → arOk op l.length = true → ea d0 (aR op (cellsA l) l.length) ≠ 11 ∧ ea d0 (aR op (cellsA l) l.length) ≠ 2
theorem low_ok (d : Hid) (l : List V2) (w0 w1 : Int) : lowOkB (sRef d (cellsA l) (cellsA l) w0 w1) 8 8 = true := by
 have h := cellsA_unders 8 l
 show (true && (true && (AV.unders 8 (cellsA l) && (true && (true && (AV.unders 8 (cellsA l) && (true && (true && true)))))))) = true
 rw [h]; rfl
theorem wrap_i (i : Nat) (h : i < 1000) : IntKind.i64.wrap (Int.ofNat i + 1) = Int.ofNat (i + 1) := wrap64 (by simp only [Int.ofNat_eq_natCast]; omega) (by simp only [Int.ofNat_eq_natCast]; omega)
theorem arOk_t {op : Int} {n : Nat} {e : Int} (h : arOk op n = true) : exit3 op n e = okE e := by
 unfold arOk at h
 rw [Bool.and_eq_true, Bool.or_eq_true] at h
 obtain ⟨h1, h2⟩ := h
 unfold exit3
 rw [h1]
 cases h3 : leI 0 (arOf op).2 with
 | false => rfl
 | true =>
  rw [h3] at h2
  rcases h2 with h2 | h2
  ·cases h2
  ·rw [h2]; rfl
theorem arOk_f {op : Int} {n : Nat} {e : Int} (h : arOk op n = false) : exit3 op n e = x11 e := by
 unfold arOk at h
 unfold exit3
 cases h1 : leI (arOf op).1 (.ofNat n) with
 | false => rfl
 | true =>
  rw [h1] at h
  cases h3 : leI 0 (arOf op).2 with
  | false => rw [h3] at h; cases h
  | true =>
   rw [h3] at h
   cases h4 : leI (.ofNat n) (arOf op).2 with
   | false => rfl
   | true => rw [h4] at h; cases h
section
variable (ca : Hid → List AV → Bool) (ta na ea : Hid → List AV → Int) (Da : Hid → List AV → Hid)
theorem loop3 (op : Int) (l : List V2) (m : Nat) (hm : l.length = m + 1) (hl : l.length ≤ 30) (d : Hid) (w0 w1 e : Int)
  (hbad : okAll 0 l = false → e = 2) (hgood : okAll 0 l = true → exit3 op (m + 1) e = some (.bool true)) :
  ∀ (N i : Nat), i ≤ m + 1 → m + 1 < N + i → (∀ j, j < i → ∀ p, l[j]? = some p → sndB 0 p.1 p.2 = true) → L3r ca ta na ea Da Tryz.prog N (tRef op (cellsA l) (m + 1) e (.ofNat i)) (sRef d (cellsA l) (cellsA l) w0 w1) = some (.bool true)
 | 0, i, h1, h2, _ => by omega
 | N + 1, i, h1, h2, h3 => by
  refine (step3 ca ta na ea Da op (cellsA l) m N i d (cellsA l) (cellsA l) w0 w1 e).trans ?_
  by_cases hi : i < m + 1
  case neg =>
   refine (byB_f (by rw [leI_t (show Int.ofNat (m + 1) ≤ Int.ofNat i by simp only [Int.ofNat_eq_natCast]; omega)]; rfl) _ _).trans ?_
   refine hgood (List.all_eq_true.2 fun p hp => ?_)
   obtain ⟨j, hj, hjp⟩ := List.getElem_of_mem hp
   exact h3 j (by omega) p (by rw [List.getElem?_eq_getElem hj, hjp])
  have hlt : i < l.length := by omega
  obtain ⟨c1, c2⟩ := cells_cut l i _ (List.getElem?_eq_getElem hlt)
  refine (byB_t (by rw [leI_f (show Int.ofNat i < Int.ofNat (m + 1) by simp only [Int.ofNat_eq_natCast]; omega)]; rfl) _ _).trans ?_
  refine (ifK_t (by rw [show Nat.blt i (m + 1) = true by simpa using hi, c2]; rfl) _).trans ?_
  rw [c1]
  show byB (sndB 0 (l[i]).1 (l[i]).2) (ifK _ (ifK _ _)) (some (AV.bool (eqI e 2))) = _
  cases hs : sndB 0 (l[i]).1 (l[i]).2 with
  | false =>
   have : okAll 0 l = false := by
    cases hk : okAll 0 l with
    | false => rfl
    | true =>
     have := List.all_eq_true.1 hk _ (List.getElem_mem hlt)
     rw [hs] at this; cases this
   rw [hbad this]; rfl
  | true =>
   refine (byB_t rfl _ _).trans ?_
   refine (ifK_t (cellsA_unders 8 l) _).trans ?_
   refine (ifK_t (low_ok d l w0 w1) _).trans ?_
   rw [wrap_i i (by omega)]
   refine loop3 op l m hm hl d w0 w1 e hbad hgood N (i + 1) (by omega) (by omega) fun j hj p hp => ?_
   by_cases he : j = i
   ·subst he
    rw [List.getElem?_eq_getElem hlt] at hp
    cases hp; exact hs
   ·exact h3 j (by omega) p hp
theorem law3_of (op : Int) (l : List V2) (h0 : l ≠ []) (hF : l.length ≤ 30 → Facts ca ta na ea op l) :
  bodyY Tryz.prog G2 (X3r ca ta na ea Da) (Y3r ca ta na ea Da) 5 8 D3r Res.val? 40 Tryz.prog.funcs[3]? [.int .i64 op, .lst (cellsA l) l.length false false] St.empty = some (.bool true) := by
 obtain ⟨m, hm⟩ : ∃ m, l.length = m + 1 := ⟨l.length - 1, by cases l with | nil => exact absurd rfl h0 | cons => simp⟩
 rw [hm]
 refine (start3 ca ta na ea Da op (cellsA l) m).trans ?_
 by_cases hl : l.length ≤ 30
 case neg => exact byB_t (by rw [leI_f (show (30 : Int) < Int.ofNat (m + 1) by simp only [Int.ofNat_eq_natCast]; omega)]; rfl) _ _
 have F := hF hl
 have hcut : cutN ((0 + (m + 1)) * 2) 0 (cellsA l) = some (cellsA l) := cellsA_cut l _ (by omega)
 have htake : takeN ((m + 1) * 2) (cellsA l) = some (cellsA l) := cellsA_cut l (m + 1) hm
 have hb : Nat.blt 0 (0 + (m + 1)) = true := by simp
 have hcvt : cvt (cellsA l) (0 + (m + 1)) = true := by
  unfold cvt
  rw [hcut]
  simp only [hb, cellsA_plains]
  rfl
 refine (byB_f (by rw [leI_t (show Int.ofNat (m + 1) ≤ (30 : Int) by simp only [Int.ofNat_eq_natCast]; omega)]; rfl) _ _).trans ?_
 have hble : Nat.ble (0 + (m + 1)) 1073741824 = true := Nat.ble_eq_true_of_le (by omega)
 refine (ifK_t hble _).trans ?_
 rw [htake]
 refine (ifK_t (cellsA_single l) _).trans ?_
 refine (ifK_t hcvt _).trans ?_
 refine (ifK_t hble _).trans ?_
 refine (ifK_t (cellsA_single l) _).trans ?_
 rw [hcut]
 refine (ifK_t (by rw [hb, cellsA_plains]; rfl) _).trans ?_
 rw [Nat.zero_add, ← hm]
 refine (ifK_t F.def_ _).trans ?_
 have outs : (op < 0 ∨ 64 ≤ op) → out3 (ea d0 (aR op (cellsA l) l.length)) (ta d0 (aR op (cellsA l) l.length)) (na d0 (aR op (cellsA l) l.length)) = some (.bool true) := fun ho => by
  obtain ⟨e1, e2, e3⟩ := F.out ho
  rw [e1, e2, e3]; rfl
 by_cases h1 : op < 0
 ·exact (byB_t (by rw [leI_f h1]; rfl) _ _).trans (outs (.inl h1))
 refine (byB_f (by rw [leI_t (show (0 : Int) ≤ op by omega)]; rfl) _ _).trans ?_
 by_cases h2 : 64 ≤ op
 ·exact (byB_t (leI_t h2) _ _).trans (outs (.inr h2))
 refine (byB_f (leI_f (by omega)) _ _).trans ?_
 rw [hm]
 have hm' := hm
 refine loop3 ca ta na ea Da op l m hm hl _ _ _ _ (fun hk => ?_) (fun hk => ?_) 40 0 (by omega) (by omega) fun j hj => by omega
 ·rw [← hm]; exact F.form (by omega) (by omega) hk
 ·cases ha : arOk op (m + 1) with
  | false =>
   rw [arOk_f ha]
   have := F.arity (by omega) (by omega) hk (by rw [hm]; exact ha)
   rw [← hm, this]; rfl
  | true =>
   rw [arOk_t ha]
   obtain ⟨g1, g2⟩ := F.good (by omega) (by omega) hk (by rw [hm]; exact ha)
   rw [← hm]
   show byB (!eqI _ 11) (some (.bool (!eqI _ 2))) N4 = _
   rw [eqI_no g1, eqI_no g2]; rfl
end
end Go.Am.Sto
end
section
namespace Go.Am.Sto
open Go Go.Am Go.Proofs
theorem k10h {F : Hid → List AV → Option (Bool × AV × Hid)} (hF : MethOk Tryz.prog G2 10 F) : ∀ (args : List AV) (s : St) (E : Env) (w : World) (vs : List Value), Rel E s w → GlobOk E G2 w → VRL E args vs → ResOk Tryz.prog E s w 10 vs (h10 F args s) := by
 intro args s E w vs h hG ha
 unfold h10
 split
 ·exact k10n _ s E w vs h hG ha
 ·exact hF _ s E w vs h hG ha
theorem k10_le {β : Type} (F : Hid → List AV → Option (Bool × AV × Hid)) (ar : List AV) (s : St) (kr kr' : Res → Option β) (h : ∀ r, Le (kr r) (kr' r)) : Le (K10 F ar s kr) (kr' (h10 F ar s)) := by
 unfold K10 h10
 split
 ·split
  ·rename_i r op q off len es tight
   refine Le.ifK fun hc => ?_
   have : readX F10n [.nilp, .int .i64 op, .sl q off len es tight] s = .ret (.tup [.agg [.int .i64 0, .int .i64 0], .int .i64 1]) s := by
    obtain ⟨y, hy⟩ := Option.isSome_iff_exists.1 hc
    have e : ∃ cs t nl, y = .lst cs len t nl := by
     simp only [convA] at hy
     split at hy
     ·split at hy
      ·cases hb : Nat.blt 0 len && AV.plains _ <;> rw [hb] at hy <;> cases hy
       exact ⟨_, _, _, rfl⟩
      ·cases hy
     ·cases hy
    obtain ⟨cs, t, nl, rfl⟩ := e
    have hc : convRL s [.nilp, .int .i64 op, .sl q off len es tight] = some [.nilp, .int .i64 op, .lst cs len t nl] := by
     have h1 : convR s (.sl q off len es tight) = some (.lst cs len t nl) := hy
     have h0 : convR s .nilp = some .nilp := rfl
     have h2 : convR s (.int .i64 op) = some (.int .i64 op) := rfl
     simp only [convRL, h0, h1, h2]
    unfold readX
    rw [hc]; rfl
   rw [this]
   exact h _
  ·exact fun x hx => by cases hx
 ·exact methK_le F _ s kr kr' h
section
variable (ca : Hid → List AV → Bool) (ta na ea : Hid → List AV → Int) (Da : Hid → List AV → Hid)
theorem kX3r (hF : MethOk Tryz.prog G2 10 (apV ca ta na ea Da)) : KnownOk Tryz.prog G2 (X3r ca ta na ea Da) :=
 (((((KnownOk.none _ _).add fun ar s E w vs h hG ha => k8c ar s E w vs h (G2_0 hG) ha).add fun ar s E w vs h hG ha => k9 ar s E w vs h (G2_0 hG) ha).add k11).add fun ar s E w vs h hG ha => k12a ar s E w vs h (G2_0 hG) ha).add (k10h hF)
theorem kY3r {β : Type} : KnownKOk (X3r ca ta na ea Da) (Y3r ca ta na ea Da : KnownK β) := addH' (addP (KnownKOk.none _) 12 FAr) 10 (k10_le _)
end
end Go.Am.Sto
end
section
namespace Go.Am.Sto
open Go Go.Am Go.Proofs
def Says (P : Program) (f : FuncId) (d : Hid) (ar : List AV) (x : AV) (d' : Hid) : Prop := ∃ F, MethOk P G2 f F ∧ F d ar = some (true, x, d')
theorem says_meth {P : Program} {f : FuncId} {F : Hid → List AV → Option (Bool × AV × Hid)} (hF : ∀ d ar x d', F d ar = some (true, x, d') → Says P f d ar x d') : MethOk P G2 f F := by
 intro args s E w vs h hG ha
 unfold methX
 split
 ·rename_i n hn
  split
  ·rename_i d hd
   split
   ·rename_i p hp
    obtain ⟨ar, q1, q2⟩ := convML_eq (δ := Bool × AV × Hid) hp
    obtain ⟨c, x, d'⟩ := p
    cases c with
    | false => trivial
    | true =>
     obtain ⟨F0, h0, e0⟩ := hF d ar x d' q1
     have k := h0 args s E w vs h hG ha
     unfold methX at k
     simp only [hn, hd] at k
     rw [q2, e0] at k
     exact k
   ·trivial
  ·trivial
 ·trivial
def evF (P : Program) (G : Glob) (f : FuncId) (X : Known) (Y : KnownK R) (D : Live) (m loops n : Nat) (d : Hid) (ar : List AV) : Option (Bool × AV × Hid) := match bodyY P G X Y loops n D Res.meth? m P.funcs[f]? ar (St.one d) with
 | some p => some (true, p.1, p.2)
 | none => none
theorem says_ev {f : FuncId} {X : Known} {Y : KnownK R} {D : Live} {m loops n : Nat} {d d' : Hid} {ar : List AV} {x : AV} (hX : KnownOk Tryz.prog G2 X) (hY : KnownKOk X Y) (h : bodyY Tryz.prog G2 X Y loops n D Res.meth? m Tryz.prog.funcs[f]? ar (St.one d) = some (x, d')) : Says Tryz.prog f d ar x d' := by
 refine ⟨evF Tryz.prog G2 f X Y D m loops n, meth_known (D := D) (m := m) (loops := loops) (n := n) hm hn G2_plain hX hY fun d ar x d' hF => ?_, ?_⟩
 ·unfold evF at hF
  split at hF
  ·rename_i p hp; cases hF; exact hp
  ·cases hF
 ·unfold evF; rw [h]
theorem says_ev0 {f : FuncId} {X : Known} {Y : KnownK R} {D : Live} {m loops n : Nat} {d d' : Hid} {ar : List AV} {x : AV} (hX : KnownOk Tryz.prog G0 X) (hY : KnownKOk X Y) (h : bodyY Tryz.prog G0 X Y loops n D Res.meth? m Tryz.prog.funcs[f]? ar (St.one d) = some (x, d')) : Says Tryz.prog f d ar x d' := by
 refine ⟨evF Tryz.prog G0 f X Y D m loops n, kM2 (meth_known (D := D) (m := m) (loops := loops) (n := n) hm hn G0_plain hX hY fun d ar x d' hF => ?_), ?_⟩
 ·unfold evF at hF
  split at hF
  ·rename_i p hp; cases hF; exact hp
  ·cases hF
 ·unfold evF; rw [h]
abbrev resV (t n e : Int) : AV := .tup [.agg [.int .i64 t, .int .i64 n], .int .i64 e]
def Asked (op : Int) (l : List V2) (t n e : Int) : Prop :=
 ((op < 0 ∨ 64 ≤ op) → t = 0 ∧ n = 0 ∧ e = 1) ∧ (0 ≤ op → op < 64 → (okAll 0 l = false → e = 2) ∧ (okAll 0 l = true → (arOk op l.length = false → e = 11) ∧ (arOk op l.length = true → e ≠ 11 ∧ e ≠ 2)))
def Answered (P : Program) (op : Int) (l : List V2) : Prop := ∃ t n e d', Says P 10 d0 (aR op (cellsA l) l.length) (resV t n e) d' ∧ Asked op l t n e
open Classical in
noncomputable def caAt (ar0 : List AV) (d : Hid) (ar : List AV) : Bool := decide (d = d0 ∧ ar = ar0)
open Classical in
theorem caAt_iff (ar0 : List AV) (d : Hid) (ar : List AV) : caAt ar0 d ar = true ↔ d = d0 ∧ ar = ar0 := by unfold caAt; exact decide_eq_true_iff
theorem law3 (op : Int) (l : List V2) (h0 : l ≠ []) (h : l.length ≤ 30 → Answered Tryz.prog op l) :
  ∃ ca ta na ea Da, MethOk Tryz.prog G2 10 (apV ca ta na ea Da) ∧ bodyY Tryz.prog G2 (X3r ca ta na ea Da) (Y3r ca ta na ea Da) 5 8 D3r Res.val? 40 Tryz.prog.funcs[3]? [.int .i64 op, .lst (cellsA l) l.length false false] St.empty = some (.bool true) := by
 by_cases hl : l.length ≤ 30
 ·obtain ⟨t, n, e, d', hs, hq⟩ := h hl
  refine ⟨caAt (aR op (cellsA l) l.length), fun _ _ => t, fun _ _ => n, fun _ _ => e, fun _ _ => d', says_meth fun d ar x d1 hF => ?_, ?_⟩
  ·unfold apV at hF
   simp only [Option.some.injEq, Prod.mk.injEq] at hF
   obtain ⟨h1, rfl, rfl⟩ := hF
   obtain ⟨rfl, rfl⟩ := (caAt_iff _ _ _).1 h1
   exact hs
  ·exact law3_of _ _ _ _ _ op l h0 fun _ => ⟨(caAt_iff _ _ _).2 ⟨rfl, rfl⟩, hq.1, fun a b c => (hq.2 a b).1 c, fun a b c => ((hq.2 a b).2 c).1, fun a b c => ((hq.2 a b).2 c).2⟩
 ·refine ⟨fun _ _ => false, fun _ _ => 0, fun _ _ => 0, fun _ _ => 0, fun d _ => d, fun args s E w vs h hG ha => ?_, law3_of _ _ _ _ _ op l h0 fun h => absurd h hl⟩
  exact says_meth (F := apV (fun _ _ => false) (fun _ _ => 0) (fun _ _ => 0) (fun _ _ => 0) (fun d _ => d)) (fun d ar x d1 hF => by simp [apV] at hF) args s E w vs h hG ha
end Go.Am.Sto
end
section
namespace Go.Am.Sto
open Go Go.Am Go.Proofs
theorem tArity (d : Hid) (op : Int) (cs : List AV) (n : Nat) (tt nl : Bool) : bodyY Tryz.prog G0 X10s Y10s 90 20 noLive Res.meth? 100 Tryz.prog.funcs[10]? [.hptr 0, .int .i64 op, .lst cs n tt nl] (St.one d) =
  inOp d op (ifK (AV.plain (.lst cs n tt nl)) (ifK (okp d cs n) (byB (!leI (arOf op).1 (.ofNat n)) (gV d 0 0 11) (byB (leI 0 (arOf op).2) (byB (!leI (.ofNat n) (arOf op).2) (gV d 0 0 11) none) none)))) := by kernel_rfl
theorem noneK_le {β : Type} (h : List AV → St → Res) (ar : List AV) (s : St) (kr kr' : Res → Option β) (_ : ∀ r, Le (kr r) (kr' r)) : Le (noneK ar s kr) (kr' (h ar s)) := fun x hx => by cases hx
end Go.Am.Sto
end
section
namespace Go.Am.Sto
open Go Go.Am Go.Proofs
theorem kX10n : KnownOk Tryz.prog G0 X10n := ((kX1.add k22a).add k41n).add fun _ _ _ _ _ _ _ _ => trivial
theorem kY10n {β : Type} : KnownKOk X10n (Y10n : KnownK β) := addH' (addK (addP kY1 22 FAr) 41 F41n) 27 (noneK_le _)
theorem kX10s : KnownOk Tryz.prog G0 X10s := ((kX1.add k22a).add k41).add fun _ _ _ _ _ _ _ _ => trivial
theorem kY10s {β : Type} : KnownKOk X10s (Y10s : KnownK β) := addH' (addK (addP kY1 22 FAr) 41 F41) 27 (noneK_le _)
theorem ans_out (op : Int) (l : List V2) (h : op < 0 ∨ 64 ≤ op) : Answered Tryz.prog op l := by
 refine ⟨0, 0, 1, d0, says_ev0 kX10n kY10n ((tForm d0 op (cellsA l) l.length false false).trans ?_), fun _ => ⟨rfl, rfl, rfl⟩, fun h1 h2 => by omega⟩
 by_cases h1 : op < 0
 ·exact byB_t (by rw [leI_f h1]; rfl) _ _
 ·refine (byB_f (by rw [leI_t (show (0 : Int) ≤ op by omega)]; rfl) _ _).trans ?_
  exact byB_t (leI_t (by omega)) _ _
theorem inOp_in {d : Hid} {op : Int} (h1 : 0 ≤ op) (h2 : op < 64) (x : Option R) : inOp d op x = x := by
 refine (byB_f (by rw [leI_t h1]; rfl) _ _).trans ?_
 exact byB_f (leI_f h2) _ _
theorem ans_form (op : Int) (l : List V2) (h1 : 0 ≤ op) (h2 : op < 64) (hl : l.length ≤ 30) (hk : okAll 0 l = false) : Answered Tryz.prog op l := by
 have hb : bad d0 (cellsA l) l.length = true := by
  unfold bad
  rw [isCells_cells, ofCells_cells, Nat.ble_eq_true_of_le (show l.length ≤ 900 by omega)]
  have : badI d0.rows.length l < l.length := by
   refine List.findIdx_lt_length_of_exists ?_
   have hk : (l.all fun p => sndB 0 p.1 p.2) = false := hk
   rw [List.all_eq_false] at hk
   obtain ⟨p, hp, hq⟩ := hk
   have hq : sndB 0 p.1 p.2 = false := by simpa using hq
   exact ⟨p, hp, by show (!sndB 0 p.1 p.2) = true; rw [hq]; rfl⟩
  simpa using this
 refine ⟨0, 0, 2, d0, says_ev0 kX10n kY10n ((tForm d0 op (cellsA l) l.length false false).trans ?_), fun h => by omega, fun _ _ => ⟨fun _ => rfl, fun h => (by rw [hk] at h; cases h)⟩⟩
 rw [inOp_in h1 h2]
 refine (ifK_t (cellsA_plains l) _).trans ?_
 refine (ifK_t hb _).trans ?_
 exact byB_t (leI_t (by simp)) _ _
theorem okp_of {l : List V2} (hl : l.length ≤ 30) (hk : okAll 0 l = true) : okp d0 (cellsA l) l.length = true := by
 unfold okp
 rw [isCells_cells, ofCells_cells, Nat.ble_eq_true_of_le (show l.length ≤ 900 by omega)]
 exact hk
theorem ans_arity (op : Int) (l : List V2) (h1 : 0 ≤ op) (h2 : op < 64) (hl : l.length ≤ 30) (hk : okAll 0 l = true) (ha : arOk op l.length = false) : Answered Tryz.prog op l := by
 refine ⟨0, 0, 11, d0, says_ev0 kX10s kY10s ((tArity d0 op (cellsA l) l.length false false).trans ?_), fun h => by omega, fun _ _ => ⟨fun h => (by rw [hk] at h; cases h), fun _ => ⟨fun _ => rfl, fun h => (by rw [ha] at h; cases h)⟩⟩⟩
 rw [inOp_in h1 h2]
 refine (ifK_t (cellsA_plains l) _).trans ?_
 refine (ifK_t (okp_of hl hk) _).trans ?_
 unfold arOk at ha
 cases h3 : leI (arOf op).1 (.ofNat l.length) with
 | false => rfl
 | true =>
  rw [h3] at ha
  cases h4 : leI 0 (arOf op).2 with
  | false => rw [h4] at ha; cases ha
  | true =>
   rw [h4] at ha
   cases h5 : leI (.ofNat l.length) (arOf op).2 with
   | false => rfl
   | true => rw [h5] at ha; cases ha
/-! ## What answers -/
abbrev XZS : Known := XZ isnS ngS lsS lnS leS gTxt valA
abbrev YZS {β : Type} : KnownK β := YZ isnS ngS lsS lnS leS gTxt valA
theorem kXZ : KnownOk Tryz.prog G2 XZS := ((((((kG2 kX3).add fun ar s E w vs h hG ha => k22a ar s E w vs h (G2_0 hG) ha).add (kM2 k38y)).add (kM2 k83z)).add (kM2 k116z)).add k114z).add (by rw [F36_eq]; exact k36)
theorem kYZ {β : Type} : KnownKOk XZS (YZS : KnownK β) := addH' (addK2 (addK (addK (addK (addP kY3 22 FAr) 38 F38y) 83 F83z) 116 F116z) 114 _) 36 k36_le
abbrev XWS : Known := XW isnS ngS lsS lnS leS gTxt valA
abbrev YWS {β : Type} : KnownK β := YW isnS ngS lsS lnS leS gTxt valA
theorem kXW : KnownOk Tryz.prog G2 XWS := (kXZ.add (kM2 k86z)).add (kM2 (meth_or k38y (meth_or k38t k38u)))
theorem kYW {β : Type} : KnownKOk XWS (YWS : KnownK β) := addK (addK kYZ 86 F86z) 38 F38z
abbrev XVS : Known := XV41 isnS ngS lsS lnS leS gTxt valA
abbrev YVS {β : Type} : KnownK β := YV41 isnS ngS lsS lnS leS gTxt valA
theorem kXVS : KnownOk Tryz.prog G2 XVS := kXW.add fun ar s E w vs h hG ha => k41x ar s E w vs h (G2_0 hG) ha
theorem kYVS {β : Type} : KnownKOk XVS (YVS : KnownK β) := addH' kYW 41 k41x_le
theorem asked_good {op : Int} {l : List V2} {t n e : Int} (h1 : 0 ≤ op) (h2 : op < 64) (hk : okAll 0 l = true) (ha : arOk op l.length = true) (e1 : e ≠ 2) (e2 : e ≠ 11) : Asked op l t n e :=
 ⟨fun h => by omega, fun _ _ => ⟨fun h => (by rw [hk] at h; cases h), fun _ => ⟨fun h => (by rw [ha] at h; cases h), fun _ => ⟨e2, e1⟩⟩⟩⟩
theorem ans_good {op : Int} {l : List V2} {X : Known} {Y : KnownK R} {D : Live} {m loops n : Nat} (hX : KnownOk Tryz.prog G2 X) (hY : KnownKOk X Y) (h1 : 0 ≤ op) (h2 : op < 64) (hk : okAll 0 l = true) (ha : arOk op l.length = true)
  (h : Good (bodyY Tryz.prog G2 X Y loops n D Res.meth? m Tryz.prog.funcs[10]? (aR op (cellsA l) l.length) (St.one d0))) : Answered Tryz.prog op l := by
 obtain ⟨t, k, e, d', he, e1, e2⟩ := h
 exact ⟨t, k, e, d', says_ev hX hY he, asked_good h1 h2 hk ha e1 e2⟩
end Go.Am.Sto
end
section
namespace Go.Am.Sto
open Go Go.Am Go.Proofs
def appR (d : Hid) (cs : List AV) (n : Nat) (tt : Bool) (last : Nat) : Nat → Nat → Option R
 | _, 0 => ifK (nonNil cs) (opt2 (fun a b => gV d a b 0) (cutN 2 (last * 2) cs))
 | i, k + 1 => ifK (nonNil cs) (opt2 (fun a b => ifK (kz d a b && AV.under 2 (.ptrL [.hptr 0, cellM 0 (.lst cs n tt false)] 0)) (byB (eqI a 0) (appR d cs n tt last (i + 1) k) (E10 d))) (cutN 2 (i * 2) cs))
section
variable (isn : Int → Int → Bool) (ng : Int → Bool) (ls : Int → List AV) (ln : Int → Nat) (le : Int → Bool) (g : Bool → List AV → Nat → Bool → Bool) (v : Bool → List AV → Int)
variable (tt : Bool) (d : Hid) (cs : List AV)
def ask22 (P : Program) (n : Nat) : Prop := apW isn ng ls ln le g v P tt false d 22 cs n = ifK (AV.plain (.lst cs n tt false)) (ifK (okp d cs n) (appR d cs n tt (n - 1) 0 (n - 1)))
theorem w22_1 : ask22 isn ng ls ln le g v tt d cs Tryz.prog 1 := by unfold ask22; kernel_rfl
theorem w22_2 : ask22 isn ng ls ln le g v tt d cs Tryz.prog 2 := by unfold ask22; kernel_rfl
theorem w22_3 : ask22 isn ng ls ln le g v tt d cs Tryz.prog 3 := by unfold ask22; kernel_rfl
theorem w22_4 : ask22 isn ng ls ln le g v tt d cs Tryz.prog 4 := by unfold ask22; kernel_rfl
theorem w22_5 : ask22 isn ng ls ln le g v tt d cs Tryz.prog 5 := by unfold ask22; kernel_rfl
theorem w22_6 : ask22 isn ng ls ln le g v tt d cs Tryz.prog 6 := by unfold ask22; kernel_rfl
theorem w22_7 : ask22 isn ng ls ln le g v tt d cs Tryz.prog 7 := by unfold ask22; kernel_rfl
theorem w22_8 : ask22 isn ng ls ln le g v tt d cs Tryz.prog 8 := by unfold ask22; kernel_rfl
theorem w22_9 : ask22 isn ng ls ln le g v tt d cs Tryz.prog 9 := by unfold ask22; kernel_rfl
theorem w22_10 : ask22 isn ng ls ln le g v tt d cs Tryz.prog 10 := by unfold ask22; kernel_rfl
theorem w22_11 : ask22 isn ng ls ln le g v tt d cs Tryz.prog 11 := by unfold ask22; kernel_rfl
theorem w22_12 : ask22 isn ng ls ln le g v tt d cs Tryz.prog 12 := by unfold ask22; kernel_rfl
theorem w22_13 : ask22 isn ng ls ln le g v tt d cs Tryz.prog 13 := by unfold ask22; kernel_rfl
theorem w22_14 : ask22 isn ng ls ln le g v tt d cs Tryz.prog 14 := by unfold ask22; kernel_rfl
theorem w22_15 : ask22 isn ng ls ln le g v tt d cs Tryz.prog 15 := by unfold ask22; kernel_rfl
theorem w22_16 : ask22 isn ng ls ln le g v tt d cs Tryz.prog 16 := by unfold ask22; kernel_rfl
theorem w22_17 : ask22 isn ng ls ln le g v tt d cs Tryz.prog 17 := by unfold ask22; kernel_rfl
theorem w22_18 : ask22 isn ng ls ln le g v tt d cs Tryz.prog 18 := by unfold ask22; kernel_rfl
theorem w22_19 : ask22 isn ng ls ln le g v tt d cs Tryz.prog 19 := by unfold ask22; kernel_rfl
theorem w22_20 : ask22 isn ng ls ln le g v tt d cs Tryz.prog 20 := by unfold ask22; kernel_rfl
theorem w22_21 : ask22 isn ng ls ln le g v tt d cs Tryz.prog 21 := by unfold ask22; kernel_rfl
theorem w22_22 : ask22 isn ng ls ln le g v tt d cs Tryz.prog 22 := by unfold ask22; kernel_rfl
theorem w22_23 : ask22 isn ng ls ln le g v tt d cs Tryz.prog 23 := by unfold ask22; kernel_rfl
theorem w22_24 : ask22 isn ng ls ln le g v tt d cs Tryz.prog 24 := by unfold ask22; kernel_rfl
theorem w22_25 : ask22 isn ng ls ln le g v tt d cs Tryz.prog 25 := by unfold ask22; kernel_rfl
theorem w22_26 : ask22 isn ng ls ln le g v tt d cs Tryz.prog 26 := by unfold ask22; kernel_rfl
theorem w22_27 : ask22 isn ng ls ln le g v tt d cs Tryz.prog 27 := by unfold ask22; kernel_rfl
theorem w22_28 : ask22 isn ng ls ln le g v tt d cs Tryz.prog 28 := by unfold ask22; kernel_rfl
theorem w22_29 : ask22 isn ng ls ln le g v tt d cs Tryz.prog 29 := by unfold ask22; kernel_rfl
theorem w22_30 : ask22 isn ng ls ln le g v tt d cs Tryz.prog 30 := by unfold ask22; kernel_rfl
end
end Go.Am.Sto
end
section
namespace Go.Am.Sto
open Go Go.Am Go.Proofs
theorem snd_0 {n : Nat} {a b : Int} (h : sndB 0 a b = true) : sndB n a b = true := by
 obtain ⟨_, h7⟩ := snd_no h
 unfold sndB at h ⊢
 rw [h7] at h ⊢
 exact h
theorem mk_next {d : Hid} {k : Int} {sl : List V2} (hd : ∃ L U, d.nums = [L, U]) (h : okAll d.rows.length sl = true) : (mkOf d k sl).1.2 = 16 ∨ ((mkOf d k sl).1.2 = 0 ∧ (mkOf d k sl).1.1 = (7, .ofNat d.rows.length) ∧ (mkOf d k sl).2.rows.length = d.rows.length + 1 ∧ ∃ L U, (mkOf d k sl).2.nums = [L, U]) := by
 obtain ⟨L, U, e⟩ := hd
 unfold mkOf
 rw [e]
 simp only [h]
 cases full L U sl.length
 ·exact .inr ⟨rfl, rfl, by show (d.rows ++ [(k, sl)]).length = _; simp, L, _, rfl⟩
 ·exact .inl rfl
theorem down_err {l : List V2} (hl : okAll 0 l = true) : ∀ (j : Nat) (d : Hid) (e : V2), (∃ L U, d.nums = [L, U]) → sndB d.rows.length e.1 e.2 = true → (downOf l j d e).1.2 = 0 ∨ (downOf l j d e).1.2 = 16
 | 0, d, e, _, _ => .inl rfl
 | j + 1, d, e, hd, he => by
  unfold downOf
  split
  ·rename_i v hv
   have hok : okAll d.rows.length [v, e] = true := by
    have hv' : sndB d.rows.length v.1 v.2 = true := snd_0 (List.all_eq_true.1 hl v (List.mem_of_getElem? hv))
    simp only [okAll, List.all_cons, List.all_nil, hv', he]; rfl
   rcases mk_next (k := 1) hd hok with h | ⟨h, h1, h2, h3⟩
   ·refine .inr ?_
    rw [h]; rfl
   ·have ih := down_err hl j (mkOf d 1 [v, e]).2 (mkOf d 1 [v, e]).1.1 h3 (by rw [h1, h2]; exact snd_obj (by omega))
    rw [h]; exact ih
  ·exact .inl rfl
theorem nums0 : ∃ L U, d0.nums = [L, U] := ⟨_, _, rfl⟩
section
variable (tt : Bool)
abbrev aW (P : Program) (tt nl : Bool) (op : Int) (cs : List AV) (n : Nat) : Option R := apW isnS ngS lsS lnS leS gTxt valA P tt nl d0 op cs n
theorem g19 (nl : Bool) {l : List V2} (hl : l.length ≤ 30) (hk : okAll 0 l = true) : Good (aW Tryz.prog tt nl 19 (cellsA l) l.length) := by
 unfold aW
 rw [w19]
 refine good_ifK (cellsA_plains l) (good_ifK (okp_of hl hk) (good_ifK (by rw [same_lst]; rfl) (good_ifK (cellsA_plains l) (good_ifK (by rw [isCells_cells, Nat.ble_eq_true_of_le (show l.length ≤ 900 by omega)]; rfl) ?_))))
 rw [ofCells_cells]
 rcases down_err hk l.length d0 (0, 0) nums0 rfl with h | h
 ·exact good_mV (by rw [h]; decide) (by rw [h]; decide)
 ·exact good_mV (by rw [h]; decide) (by rw [h]; decide)
theorem g57 {a b : Int} (h1 : sndB 0 a b = true) : Good (aW Tryz.prog tt false 57 (v1 a b) 1) := by
 unfold aW
 rw [w57]
 exact good_ifK (okp0_1 h1) (good_ifK (by rw [kz_0]; rfl) (good_byB (good_gV (by decide) (by decide)) (good_gV (by decide) (by decide))))
theorem g42e (nl : Bool) : Good (aW Tryz.prog tt nl 42 [] 0) := by
 unfold aW
 rw [w42e]
 exact good_mV (mk_err d0 4 [] rfl nums0).1 (mk_err d0 4 [] rfl nums0).2
theorem g22e (nl : Bool) : Good (aW Tryz.prog tt nl 22 [] 0) := by
 unfold aW
 rw [w22e]
 exact good_gV (by decide) (by decide)
theorem g23 (nl : Bool) {l : List V2} (hl : l.length ≤ 30) (hk : okAll 0 l = true) (hn : (bif l.length.beq 0 then nl else !nl) = true) : Good (aW Tryz.prog tt nl 23 (cellsA l) l.length) := by
 unfold aW
 rw [w23]
 refine good_ifK (cellsA_plains l) (good_ifK (okp_of hl hk) (good_ifK (cellsA_plains l) (good_ifK ?_ ?_)))
 ·rw [isCells_cells, ofCells_cells, Nat.ble_eq_true_of_le (show l.length ≤ 900 by omega), hn]
  show (true && (true && (okAll 0 l && true))) = true
  rw [hk]; rfl
 ·rw [ofCells_cells]
  exact good_mV (mk_err d0 2 l hk nums0).1 (mk_err d0 2 l hk nums0).2
theorem g42 {v : V2} {l : List V2} (hl : l.length + 1 ≤ 30) (hk : okAll 0 (v :: l) = true) : Good (aW Tryz.prog tt false 42 (cellsA (v :: l)) (l.length + 1)) := by
 unfold aW
 show Good (apW isnS ngS lsS lnS leS gTxt valA Tryz.prog tt false d0 42 (.int .i64 v.1 :: .int .i64 v.2 :: cellsA l) (l.length + 1))
 rw [w42]
 exact good_ifK (cellsA_plains (v :: l)) (good_ifK (okp_of (l := v :: l) hl hk) (good_ifK (kz_0 _ _) (good_gV (by decide) (by decide))))
theorem g45 {a b : Int} (h1 : sndB 0 a b = true) : Good (bodyY Tryz.prog G2 XVS YVS 90 20 noLive Res.meth? 100 Tryz.prog.funcs[10]? [.hptr 0, .int .i64 45, .lst (v1 a b) 1 tt false] (St.one d0)) := by
 rw [w45]
 exact good_ifK (okp0_1 h1) (good_ifK (by rw [kz_0]; rfl) (good_byB (good_mV (mk_err d0 4 [] rfl nums0).1 (mk_err d0 4 [] rfl nums0).2) (good_gV (by decide) (by decide))))
theorem good_app {l : List V2} (n last : Nat) (hl : last < l.length) : ∀ (k i : Nat), i + k = last → Good (appR d0 (cellsA l) n tt last i k)
 | 0, i, h => by
  obtain ⟨c1, c2⟩ := cells_cut l last _ (List.getElem?_eq_getElem hl)
  unfold appR
  rw [c1]
  exact good_ifK c2 (good_gV (by decide) (by decide))
 | k + 1, i, h => by
  have hi : i < l.length := by omega
  obtain ⟨c1, c2⟩ := cells_cut l i _ (List.getElem?_eq_getElem hi)
  unfold appR
  rw [c1]
  refine good_ifK c2 ?_
  show Good (ifK _ (byB _ _ _))
  refine good_ifK ?_ (good_byB (good_app n last hl k (i + 1) (by omega)) (good_gV (by decide) (by decide)))
  rw [kz_0]
  have hc : cellM 0 (.lst (cellsA l) n tt false) = .lst (cellsA l) n tt false := by
   show (bif AV.plains (cellsA l) then AV.lst (cellsA l) n tt false else .undef) = _
   rw [cellsA_plains]; rfl
  rw [hc]
  simp only [AV.under, AV.unders, cellsA_unders]; rfl
theorem w22_all (d : Hid) (cs : List AV) : ∀ n, n < 30 → ask22 isnS ngS lsS lnS leS gTxt valA tt d cs Tryz.prog (n + 1)
 | 0, _ => w22_1 isnS ngS lsS lnS leS gTxt valA tt d cs
 | 1, _ => w22_2 isnS ngS lsS lnS leS gTxt valA tt d cs
 | 2, _ => w22_3 isnS ngS lsS lnS leS gTxt valA tt d cs
 | 3, _ => w22_4 isnS ngS lsS lnS leS gTxt valA tt d cs
 | 4, _ => w22_5 isnS ngS lsS lnS leS gTxt valA tt d cs
 | 5, _ => w22_6 isnS ngS lsS lnS leS gTxt valA tt d cs
 | 6, _ => w22_7 isnS ngS lsS lnS leS gTxt valA tt d cs
 | 7, _ => w22_8 isnS ngS lsS lnS leS gTxt valA tt d cs
 | 8, _ => w22_9 isnS ngS lsS lnS leS gTxt valA tt d cs
 | 9, _ => w22_10 isnS ngS lsS lnS leS gTxt valA tt d cs
 | 10, _ => w22_11 isnS ngS lsS lnS leS gTxt valA tt d cs
 | 11, _ => w22_12 isnS ngS lsS lnS leS gTxt valA tt d cs
 | 12, _ => w22_13 isnS ngS lsS lnS leS gTxt valA tt d cs
 | 13, _ => w22_14 isnS ngS lsS lnS leS gTxt valA tt d cs
 | 14, _ => w22_15 isnS ngS lsS lnS leS gTxt valA tt d cs
 | 15, _ => w22_16 isnS ngS lsS lnS leS gTxt valA tt d cs
 | 16, _ => w22_17 isnS ngS lsS lnS leS gTxt valA tt d cs
 | 17, _ => w22_18 isnS ngS lsS lnS leS gTxt valA tt d cs
 | 18, _ => w22_19 isnS ngS lsS lnS leS gTxt valA tt d cs
 | 19, _ => w22_20 isnS ngS lsS lnS leS gTxt valA tt d cs
 | 20, _ => w22_21 isnS ngS lsS lnS leS gTxt valA tt d cs
 | 21, _ => w22_22 isnS ngS lsS lnS leS gTxt valA tt d cs
 | 22, _ => w22_23 isnS ngS lsS lnS leS gTxt valA tt d cs
 | 23, _ => w22_24 isnS ngS lsS lnS leS gTxt valA tt d cs
 | 24, _ => w22_25 isnS ngS lsS lnS leS gTxt valA tt d cs
 | 25, _ => w22_26 isnS ngS lsS lnS leS gTxt valA tt d cs
 | 26, _ => w22_27 isnS ngS lsS lnS leS gTxt valA tt d cs
 | 27, _ => w22_28 isnS ngS lsS lnS leS gTxt valA tt d cs
 | 28, _ => w22_29 isnS ngS lsS lnS leS gTxt valA tt d cs
 | 29, _ => w22_30 isnS ngS lsS lnS leS gTxt valA tt d cs
 | n + 30, h => absurd h (by omega)
theorem g22 {v : V2} {l : List V2} (hl : l.length + 1 ≤ 30) (hk : okAll 0 (v :: l) = true) : Good (aW Tryz.prog tt false 22 (cellsA (v :: l)) (l.length + 1)) := by
 unfold aW
 have h := w22_all tt d0 (cellsA (v :: l)) l.length (by omega)
 unfold ask22 at h
 rw [h]
 exact good_ifK (cellsA_plains (v :: l)) (good_ifK (okp_of (l := v :: l) hl hk) (good_app tt (l.length + 1) l.length (by simp) l.length 0 (by omega)))
end
end Go.Am.Sto
end
section
namespace Go.Am.Sto
open Go Go.Am Go.Proofs
theorem arity_of {op : Int} {m n : Nat} (h : arOf op = (.ofNat m, .ofNat m)) (ha : arOk op n = true) : n = m := by
 unfold arOk at ha
 rw [h, Bool.and_eq_true, Bool.or_eq_true] at ha
 obtain ⟨h1, h2⟩ := ha
 have h0 : leI 0 (.ofNat m) = true := leI_t (by simp)
 rw [leI_iff, decide_eq_true_iff] at h1
 rcases h2 with h2 | h2
 ·rw [h0] at h2; cases h2
 ·rw [leI_iff, decide_eq_true_iff] at h2
  simp only [Int.ofNat_eq_natCast] at h1 h2
  omega
section
variable {op : Int} {X : Known} {Y : KnownK R} {D : Live} {m loops n : Nat} (hX : KnownOk Tryz.prog G2 X) (hY : KnownKOk X Y) (h1 : 0 ≤ op) (h2 : op < 64)
include hX hY h1 h2
theorem ans_1 (h : arOf op = (1, 1)) (G : ∀ a b, sndB 0 a b = true → Good (bodyY Tryz.prog G2 X Y loops n D Res.meth? m Tryz.prog.funcs[10]? [.hptr 0, .int .i64 op, .lst (v1 a b) 1 false false] (St.one d0))) :
  ∀ l, okAll 0 l = true → arOk op l.length = true → Answered Tryz.prog op l := by
 intro l hk ha
 have hl := arity_of (m := 1) h ha
 match l, hl with
 | [(a, b)], _ => exact ans_good hX hY h1 h2 hk ha (G a b (by simpa [okAll] using hk))
theorem ans_2 (h : arOf op = (2, 2)) (G : ∀ a b c e, sndB 0 a b = true → sndB 0 c e = true → Good (bodyY Tryz.prog G2 X Y loops n D Res.meth? m Tryz.prog.funcs[10]? [.hptr 0, .int .i64 op, .lst (v2 a b c e) 2 false false] (St.one d0))) :
  ∀ l, okAll 0 l = true → arOk op l.length = true → Answered Tryz.prog op l := by
 intro l hk ha
 have hl := arity_of (m := 2) h ha
 match l, hl with
 | [(a, b), (c, e)], _ =>
  have hs : sndB 0 a b = true ∧ sndB 0 c e = true := by simpa [okAll] using hk
  exact ans_good hX hY h1 h2 hk ha (G a b c e hs.1 hs.2)
theorem ans_3 (h : arOf op = (3, 3)) (G : ∀ a b c e f g, sndB 0 a b = true → sndB 0 c e = true → sndB 0 f g = true → Good (bodyY Tryz.prog G2 X Y loops n D Res.meth? m Tryz.prog.funcs[10]? [.hptr 0, .int .i64 op, .lst (v3 a b c e f g) 3 false false] (St.one d0))) :
  ∀ l, okAll 0 l = true → arOk op l.length = true → Answered Tryz.prog op l := by
 intro l hk ha
 have hl := arity_of (m := 3) h ha
 match l, hl with
 | [(a, b), (c, e), (f, g)], _ =>
  have hs : sndB 0 a b = true ∧ sndB 0 c e = true ∧ sndB 0 f g = true := by simpa [okAll] using hk
  exact ans_good hX hY h1 h2 hk ha (G a b c e f g hs.1 hs.2.1 hs.2.2)
end
theorem ans_l {op : Int} {X : Known} {Y : KnownK R} {D : Live} {m loops n : Nat} (hX : KnownOk Tryz.prog G2 X) (hY : KnownKOk X Y) (h1 : 0 ≤ op) (h2 : op < 64)
  (G : ∀ (v : V2) l, l.length + 1 ≤ 30 → okAll 0 (v :: l) = true → Good (bodyY Tryz.prog G2 X Y loops n D Res.meth? m Tryz.prog.funcs[10]? [.hptr 0, .int .i64 op, .lst (cellsA (v :: l)) (l.length + 1) false false] (St.one d0))) :
  ∀ l, l ≠ [] → l.length ≤ 30 → okAll 0 l = true → arOk op l.length = true → Answered Tryz.prog op l := by
 intro l h0 hl hk ha
 cases l with
 | nil => exact absurd rfl h0
 | cons v l => exact ans_good hX hY h1 h2 hk ha (G v l hl hk)
theorem ans_in (l : List V2) (h0 : l ≠ []) (hl : l.length ≤ 30) (hk : okAll 0 l = true) (HA : ∀ op, (op = 24 ∨ op = 55 ∨ (0 ≤ op ∧ op ≤ 10)) → arOk op l.length = true → Answered Tryz.prog op l) :
  ∀ k : Nat, k < 64 → arOk (.ofNat k) l.length = true → Answered Tryz.prog (.ofNat k) l
 | 0, _, ha => HA 0 (.inr (.inr ⟨by omega, by omega⟩)) ha
 | 1, _, ha => HA 1 (.inr (.inr ⟨by omega, by omega⟩)) ha
 | 2, _, ha => HA 2 (.inr (.inr ⟨by omega, by omega⟩)) ha
 | 3, _, ha => HA 3 (.inr (.inr ⟨by omega, by omega⟩)) ha
 | 4, _, ha => HA 4 (.inr (.inr ⟨by omega, by omega⟩)) ha
 | 5, _, ha => HA 5 (.inr (.inr ⟨by omega, by omega⟩)) ha
 | 6, _, ha => HA 6 (.inr (.inr ⟨by omega, by omega⟩)) ha
 | 7, _, ha => HA 7 (.inr (.inr ⟨by omega, by omega⟩)) ha
 | 8, _, ha => HA 8 (.inr (.inr ⟨by omega, by omega⟩)) ha
 | 9, _, ha => HA 9 (.inr (.inr ⟨by omega, by omega⟩)) ha
 | 10, _, ha => HA 10 (.inr (.inr ⟨by omega, by omega⟩)) ha
 | 11, _, ha => ans_1 kXZ kYZ (by decide) (by decide) rfl (fun a b h => g11 false h) l hk ha
 | 12, _, ha => ans_2 kXZ kYZ (by decide) (by decide) rfl (fun a b c e h g => g12 false h g) l hk ha
 | 13, _, ha => ans_1 kXZ kYZ (by decide) (by decide) rfl (fun a b h => g13 false h) l hk ha
 | 14, _, ha => ans_1 kXZ kYZ (by decide) (by decide) rfl (fun a b h => g14 false h) l hk ha
 | 15, _, ha => ans_2 kXZ kYZ (by decide) (by decide) rfl (fun a b c e h g => g15 false h g) l hk ha
 | 16, _, ha => ans_2 kXZ kYZ (by decide) (by decide) rfl (fun a b c e h g => g16 false h g) l hk ha
 | 17, _, ha => ans_1 kXZ kYZ (by decide) (by decide) rfl (fun a b h => g17 false h) l hk ha
 | 18, _, ha => ans_1 kXZ kYZ (by decide) (by decide) rfl (fun a b h => g18 false h) l hk ha
 | 19, _, ha => ans_l kXW kYW (by decide) (by decide) (fun v l h1 h2 => g19 false false h1 h2) l h0 hl hk ha
 | 20, _, ha => ans_1 kXZ kYZ (by decide) (by decide) rfl (fun a b h => g20 false h) l hk ha
 | 21, _, ha => ans_1 kXZ kYZ (by decide) (by decide) rfl (fun a b h => g21 false h) l hk ha
 | 22, _, ha => ans_l kXW kYW (by decide) (by decide) (fun v l h1 h2 => g22 false h1 h2) l h0 hl hk ha
 | 23, _, ha => ans_l kXW kYW (by decide) (by decide) (fun v l h1 h2 => g23 false false h1 h2 rfl) l h0 hl hk ha
 | 24, _, ha => HA 24 (.inl rfl) ha
 | 25, _, ha => ans_2 kXZ kYZ (by decide) (by decide) rfl (fun a b c e h g => g25 false h g) l hk ha
 | 26, _, ha => ans_3 kXZ kYZ (by decide) (by decide) rfl (fun a b c e f g h i j => g26 false h i j) l hk ha
 | 27, _, ha => ans_1 kXZ kYZ (by decide) (by decide) rfl (fun a b h => g27 false h) l hk ha
 | 28, _, ha => ans_1 kXZ kYZ (by decide) (by decide) rfl (fun a b h => g28 false h) l hk ha
 | 29, _, ha => ans_1 kXZ kYZ (by decide) (by decide) rfl (fun a b h => g29 false h) l hk ha
 | 30, _, ha => ans_1 kXZ kYZ (by decide) (by decide) rfl (fun a b h => g30 false h) l hk ha
 | 31, _, ha => ans_2 kXZ kYZ (by decide) (by decide) rfl (fun a b c e h g => g31 false h g) l hk ha
 | 32, _, ha => ans_2 kXZ kYZ (by decide) (by decide) rfl (fun a b c e h g => g32 false h g) l hk ha
 | 33, _, ha => ans_2 kXZ kYZ (by decide) (by decide) rfl (fun a b c e h g => g33 false h g) l hk ha
 | 34, _, ha => ans_1 kXZ kYZ (by decide) (by decide) rfl (fun a b h => g34 false h) l hk ha
 | 35, _, ha => ans_1 kXZ kYZ (by decide) (by decide) rfl (fun a b h => g35 false h) l hk ha
 | 36, _, ha => ans_1 kXZ kYZ (by decide) (by decide) rfl (fun a b h => g36 false h) l hk ha
 | 37, _, ha => ans_1 kXZ kYZ (by decide) (by decide) rfl (fun a b h => g37 false h) l hk ha
 | 38, _, ha => ans_1 kXZ kYZ (by decide) (by decide) rfl (fun a b h => g38 false h) l hk ha
 | 39, _, ha => ans_1 kXZ kYZ (by decide) (by decide) rfl (fun a b h => g39 false h) l hk ha
 | 40, _, ha => ans_1 kXZ kYZ (by decide) (by decide) rfl (fun a b h => g40 false h) l hk ha
 | 41, _, ha => ans_2 kXZ kYZ (by decide) (by decide) rfl (fun a b c e h g => g41 false h g) l hk ha
 | 42, _, ha => ans_l kXW kYW (by decide) (by decide) (fun v l h1 h2 => g42 false h1 h2) l h0 hl hk ha
 | 43, _, ha => ans_2 kXZ kYZ (by decide) (by decide) rfl (fun a b c e h g => g43 false h g) l hk ha
 | 44, _, ha => ans_1 kXZ kYZ (by decide) (by decide) rfl (fun a b h => g44 false h) l hk ha
 | 45, _, ha => ans_1 kXVS kYVS (by decide) (by decide) rfl (fun a b h => g45 false h) l hk ha
 | 46, _, ha => ans_1 kXZ kYZ (by decide) (by decide) rfl (fun a b h => g46 false h) l hk ha
 | 47, _, ha => ans_1 kXZ kYZ (by decide) (by decide) rfl (fun a b h => g47 false h) l hk ha
 | 48, _, ha => ans_1 kXZ kYZ (by decide) (by decide) rfl (fun a b h => g48 false h) l hk ha
 | 49, _, ha => ans_1 kXZ kYZ (by decide) (by decide) rfl (fun a b h => g49 false h) l hk ha
 | 50, _, ha => ans_1 kXZ kYZ (by decide) (by decide) rfl (fun a b h => g50 false h) l hk ha
 | 51, _, ha => ans_2 kXZ kYZ (by decide) (by decide) rfl (fun a b c e h g => g51 false h g) l hk ha
 | 52, _, ha => ans_1 kXZ kYZ (by decide) (by decide) rfl (fun a b h => g52 false h) l hk ha
 | 53, _, ha => absurd (arity_of (m := 0) rfl ha) (by simpa using h0)
 | 54, _, ha => ans_1 kXZ kYZ (by decide) (by decide) rfl (fun a b h => g54 false h) l hk ha
 | 55, _, ha => HA 55 (.inr (.inl rfl)) ha
 | 56, _, ha => ans_1 kXZ kYZ (by decide) (by decide) rfl (fun a b h => g56 false h) l hk ha
 | 57, _, ha => ans_1 kXW kYW (by decide) (by decide) rfl (fun a b h => g57 false h) l hk ha
 | 58, _, ha => ans_1 kXZ kYZ (by decide) (by decide) rfl (fun a b h => g58 false h) l hk ha
 | 59, _, ha => ans_1 kXZ kYZ (by decide) (by decide) rfl (fun a b h => g59 false h) l hk ha
 | 60, _, ha => ans_1 kXZ kYZ (by decide) (by decide) rfl (fun a b h => g60 false h) l hk ha
 | 61, _, ha => ans_2 kXZ kYZ (by decide) (by decide) rfl (fun a b c e h g => g61 false h g) l hk ha
 | 62, _, ha => ans_1 kXZ kYZ (by decide) (by decide) rfl (fun a b h => g62 false h) l hk ha
 | 63, _, ha => ans_2 kXZ kYZ (by decide) (by decide) rfl (fun a b c e h g => g63 false h g) l hk ha
 | n + 64, h, _ => absurd h (by omega)
end Go.Am.Sto
end
