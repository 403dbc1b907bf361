import Derived.Test.YtlibahklbbachaaGreatDoorTx37
import Derived.Laws.Externs
import Derived.RowKit3
import Derived.Below
import Derived.Lib.LaidTab
set_option autoImplicit false
set_option maxRecDepth 100000
set_option linter.unusedSimpArgs false
set_option linter.unusedVariables false
section
namespace Go.Am.Txt
open Go Go.Am Go.Proofs Go.Am.Sto
def stpT (c : Hid → List AV → Bool) (t n : Hid → List AV → Int) (D : Hid → List AV → Hid) (d : Hid) (ar : List AV) (k : Hid → Int → Int → Option AV) : Option AV := ifK (c d ar) (k (D d ar) (t d ar) (n d ar))
abbrev a1 (nm : List Nat) (a b : Int) : List AV := [.hptr 0, .str nm, .lst [.int .i64 a, .int .i64 b] 1 true false]
abbrev a2 (nm : List Nat) (a b x y : Int) : List AV := [.hptr 0, .str nm, .lst [.int .i64 a, .int .i64 b, .int .i64 x, .int .i64 y] 2 true false]
def T5 : Option AV := some (.bool true)
def N5 : Option AV := some (.bool false)
section
variable (g5 : List AV → Nat → Bool) (l5 : List AV → Nat → List AV) (m5 : List AV → Nat → Nat) (t5 n5 : List AV → Nat → Bool) (a5 : List AV → Nat → Int)
variable (c6 s6 : Bool → List AV → Nat → Bool)
variable (cD : Hid → List Nat → Bool) (tD nD eD : Hid → List Nat → Int) (DD : Hid → List Nat → Hid)
variable (cI : Hid → Bool → List AV → Nat → Bool) (tI nI eI : Hid → Bool → List AV → Int) (DI : Hid → Bool → List AV → Hid)
variable (c : Hid → List AV → Bool) (t n : Hid → List AV → Int) (D : Hid → List AV → Hid)
def sym5 (ta : List Nat) (d : Hid) (v0 v1 : Int) : Option AV := byB (!leI 1 (.ofNat ta.length)) T5 (byB (!leI (.ofNat ta.length) 64) T5
  (stpT c t n D d (a1 nm38 v0 v1) fun d y0 y1 => byB (eqI y0 6) (stpT c t n D d (a1 nm37 y0 y1) fun d z0 z1 => ifK (againV v0 v1) (stpT c t n D d (a2 nm43 z0 z1 v0 v1) fun d h0 _ => byB (eqI h0 1)
    (stpT c t n D d (a1 nm38 v0 v1) fun d x0 x1 => ifK (againV y0 y1) (stpT c t n D d (a2 nm31 y0 y1 x0 x1) fun _ i0 _ => some (.bool (eqI i0 1)))) N5)) N5))
def prim5 (ta : List Nat) (la lb : Nat) (d : Hid) (v0 v1 w0 w1 x0 x1 ev ew ex : Int) : Option AV :=
  stpT c t n D d (a2 nm42 v0 v1 w0 w1) fun d b0 b1 => byB (!eqI ev 0) N5 (byB (!eqI ew 0) N5 (byB (!eqI ex 0) N5 (stpT c t n D d (a1 nm40 b0 b1) fun d _ l1 => byB (!eqI l1 (IntKind.i64.wrap (.ofNat la + .ofNat lb))) N5
    (stpT c t n D d (a1 nm44 b0 b1) fun d l0 l1 => stpT c t n D d (a1 nm45 l0 l1) fun d k0 k1 => stpT c t n D d (a1 nm55 x0 x1) fun d s0 s1 => stpT c t n D d (a1 nm56 s0 s1) fun d q0 q1 =>
      stpT c t n D d (a2 nm43 k0 k1 b0 b1) fun d e0 _ => byB (!eqI e0 1) N5 (stpT c t n D d (a2 nm32 q0 q1 x0 x1) fun d f0 _ => byB (!eqI f0 1) N5 (sym5 c t n D ta d v0 v1))))))
variable (ta ua : List Nat) (g : Bool) (r : List AV) (k : Nat) (nl : Bool)
abbrev nA (g : Bool) (r : List AV) (k : Nat) (nl : Bool) : AV := .agg [.bool g, .lst r k false nl]
theorem tl5 : b5 g5 l5 m5 t5 n5 a5 c6 s6 cD tD nD eD DD cI tI nI eI DI c t n D Tryz.prog ta ua g r k nl =
    byB (!leI (.ofNat ta.length) 1500) T5 (byB (!leI (.ofNat ua.length) 1500) T5 (byB (!leI (.ofNat k) 80) T5
      (ifK (AV.plains [.lst (bytesA ta) ta.length false false]) (ifK (g5 (bytesA ta) ta.length) (ifK (AV.plains [.lst (bytesA ua) ua.length false false]) (ifK (g5 (bytesA ua) ua.length)
        (byB (leI 0 (a5 (bytesA ta) ta.length)) T5 (byB (leI 0 (a5 (bytesA ua) ua.length)) T5 (ifK (AV.plain (nA g r k nl)) (ifK (c6 g r k) (byB (s6 g r k)
          (ifK (cD (newHid 20000) ta) (ifK (cD (DD (newHid 20000) ta) ua) (ifK (AV.plain (nA g r k nl)) (ifK (cI (DD (DD (newHid 20000) ta) ua) g r k)
            (prim5 c t n D ta (m5 (bytesA ta) ta.length) (m5 (bytesA ua) ua.length) (DI (DD (DD (newHid 20000) ta) ua) g r) (tD (newHid 20000) ta) (nD (newHid 20000) ta) (tD (DD (newHid 20000) ta) ua) (nD (DD (newHid 20000) ta) ua)
              (tI (DD (DD (newHid 20000) ta) ua) g r) (nI (DD (DD (newHid 20000) ta) ua) g r) (eD (newHid 20000) ta) (eD (DD (newHid 20000) ta) ua) (eI (DD (DD (newHid 20000) ta) ua) g r))))))
          T5))))))))))) := by kernel_rfl
end
end Go.Am.Txt
end
section
namespace Go.Am.Txt
open Go Go.Am Go.Proofs Go.Am.Sto
abbrev eDs (_ : Hid) (_ : List Nat) : Int := 0
section
variable (P : Program)
abbrev X5s : Known := X5 (g15 H0 P) (ls15 H0 P) (ln15 H0 P) (tt15 H0 P) (nl15 H0 P) (at15 H0 P) c16 s16' cWs tWs nWs eDs DWs cIs tIs nIs eIs DIs (c14 P) (t14' P) (n14' P) (D14' P)
abbrev Y5s {β : Type} : KnownK β := Y5 (g15 H0 P) (ls15 H0 P) (ln15 H0 P) (tt15 H0 P) (nl15 H0 P) (at15 H0 P) c16 s16' cWs tWs nWs eDs DWs cIs tIs nIs eIs DIs (c14 P) (t14' P) (n14' P) (D14' P)
abbrev b5s (ta ua : List Nat) (g : Bool) (r : List AV) (k : Nat) (nl : Bool) : Option AV := b5 (g15 H0 P) (ls15 H0 P) (ln15 H0 P) (tt15 H0 P) (nl15 H0 P) (at15 H0 P) c16 s16' cWs tWs nWs eDs DWs cIs tIs nIs eIs DIs (c14 P) (t14' P) (n14' P) (D14' P) P ta ua g r k nl
abbrev stpR (d : Hid) (ar : List AV) (k : Hid → Int → Int → Option AV) : Option AV := stpT (c14 P) (t14' P) (n14' P) (D14' P) d ar k
abbrev prim5R (ta : List Nat) (la lb : Nat) (d : Hid) (v w x : V2) : Option AV := prim5 (c14 P) (t14' P) (n14' P) (D14' P) ta la lb d v.1 v.2 w.1 w.2 x.1 x.2 0 0 0
abbrev sym5R (ta : List Nat) (d : Hid) (v : V2) : Option AV := sym5 (c14 P) (t14' P) (n14' P) (D14' P) ta d v.1 v.2
end
theorem stp_of {P : Program} {d d' : Hid} {ar : List AV} {v : V2} (h : Runs P d ar v d') (k : Hid → Int → Int → Option AV) : stpR P d ar k = k d' v.1 v.2 := by
  obtain ⟨h1, h2, h3, h4⟩ := h
  unfold stpR stpT
  rw [h1, h2, h3, h4]; rfl
section
variable {P : Program} {d d' : Hid} {v w x : V2}
theorem run1 {nm : List Nat} {op : Int} (hn : numOf nm = op) (h0 : leI 0 op = true) (h : P10t P d (ar1 op v) = some (true, getV (x, 0), d')) : Runs P d (a1 nm v.1 v.2) x d' := runs_of hn h0 rfl h
theorem run2 {nm : List Nat} {op : Int} (hn : numOf nm = op) (h0 : leI 0 op = true) (h : P10t P d (ar2 op v w) = some (true, getV (x, 0), d')) : Runs P d (a2 nm v.1 v.2 w.1 w.2) x d' := runs_of hn h0 rfl h
end
theorem sym_ok {d : Hid} {u : Int} (ho : Okt d u) {v : V2} {l : List Nat} (h : Str d v l) (hn : d.names = []) (hl : (l.flatMap enc).length < 2000) (hf : u + 65 ≤ 20000) : sym5R Tryz.prog (l.flatMap enc) d v = T5 := by
  unfold sym5R sym5
  by_cases h1 : 1 ≤ (l.flatMap enc).length
  case neg => rw [leI_f (show Int.ofNat (l.flatMap enc).length < 1 by simp only [Int.ofNat_eq_natCast]; omega)]; rfl
  by_cases h2 : (l.flatMap enc).length ≤ 64
  case neg => rw [leI_t (show (1 : Int) ≤ .ofNat (l.flatMap enc).length by simp only [Int.ofNat_eq_natCast]; omega), leI_f (show (64 : Int) < .ofNat (l.flatMap enc).length by simp only [Int.ofNat_eq_natCast]; omega)]; rfl
  rw [leI_t (show (1 : Int) ≤ .ofNat (l.flatMap enc).length by simp only [Int.ofNat_eq_natCast]; omega), leI_t (show Int.ofNat (l.flatMap enc).length ≤ 64 by simp only [Int.ofNat_eq_natCast]; omega)]
  let d1 : Hid := { d with names := [l.flatMap enc] }
  have f1 := op38a (P := Tryz.prog) h h1 h2 hn
  have o1 : Okt d1 u := ⟨ho.nums, ho.len⟩
  have v1 : Str d1 v l := ⟨h.ex, h.ok, h.len⟩
  obtain ⟨z, d2, f2, t2, z2⟩ := op37 (P := Tryz.prog) o1 h.ok hl rfl (by have := flat_len l; omega)
  have v2 := v1.mono t2.grow
  have f3 := op43 (P := Tryz.prog) z2 v2
  have f4 := op38b (P := Tryz.prog) v2 h1 h2 t2.names
  have f5 := op31 (P := Tryz.prog) t2.names
  refine (byB_f rfl _ _).trans ?_
  refine (byB_f rfl _ _).trans ?_
  refine (stp_of (run1 (nm := nm38) (x := (6, 0)) rfl rfl f1) _).trans ?_
  refine (byB_t rfl _ _).trans ?_
  refine (stp_of (run1 (nm := nm37) (v := (6, 0)) rfl rfl f2) _).trans ?_
  refine (ifK_t (againV_t _ _) _).trans ?_
  refine (stp_of (run2 (nm := nm43) rfl rfl f3) _).trans ?_
  refine (byB_t rfl _ _).trans ?_
  refine (stp_of (run1 (nm := nm38) rfl rfl f4) _).trans ?_
  refine (ifK_t (againV_t _ _) _).trans ?_
  exact (stp_of (run2 (nm := nm31) (v := (6, 0)) (w := (6, 0)) rfl rfl f5) _).trans rfl
theorem num_any {d : Hid} {g : Bool} {ls : List Nat} {x : V2} {d0 : Hid} (h : (smallN g ls = true ∧ x = (4, svN g ls) ∧ d = d0) ∨ (smallN g ls = false ∧ Num d x g ls)) : ∃ g' ls', Num d x g' ls' := by
  rcases h with ⟨h, rfl, _⟩ | ⟨_, h⟩
  · refine ⟨_, _, .inl ⟨svN g ls, rfl, ?_, rfl, rfl⟩⟩
    unfold smallN at h
    rw [Bool.and_eq_true, Bool.and_eq_true, Bool.not_eq_true', Bool.not_eq_true', leI_iff, leI_iff, decide_eq_false_iff_not, decide_eq_false_iff_not] at h
    unfold small
    rw [leI_t (by omega), leI_t (by omega)]; rfl
  · exact ⟨g, ls, h⟩
theorem prim_ok {d : Hid} {u : Int} (ho : Okt d u) {v w x : V2} {l m : List Nat} {g : Bool} {ls : List Nat} (hv : Str d v l) (hw : Str d w m) (hx : Num d x g ls) (hn : d.names = []) (hl : (l.flatMap enc).length ≤ 1500) (hm : m.length ≤ 1500) (hu : u ≤ 3068) :
    prim5R Tryz.prog (l.flatMap enc) l.length m.length d v w x = T5 := by
  have hll := flat_len l
  have hlm : (l ++ m).length = l.length + m.length := List.length_append
  have hs := hx.Snd
  have htx := txN_len hs
  have hu0 : 0 ≤ u := by have := ho.len; omega
  obtain ⟨b, d1, f1, t1, b1⟩ := op42 (P := Tryz.prog) ho hv hw (by omega) (by omega)
  have v1 := hv.mono t1.grow
  have x1 := hx.mono t1.grow
  have f2 := op40 (P := Tryz.prog) b1
  obtain ⟨q, d3, f3, t3, q3⟩ := op44 (P := Tryz.prog) t1.ok b1 (by omega)
  have b3 := b1.mono t3.grow
  obtain ⟨k, d4, f4, t4, k4⟩ := op45 (P := Tryz.prog) t3.ok q3 b1.ok (by omega) (by omega) (by omega)
  have b4 := b3.mono t4.grow
  have x4 := (x1.mono t3.grow).mono t4.grow
  obtain ⟨s, d5, f5, t5, s5⟩ := op55 (P := Tryz.prog) t4.ok x4 (by omega)
  have x5 := x4.mono t5.grow
  have b5 := b4.mono t5.grow
  have k5 := k4.mono t5.grow
  obtain ⟨y, d6, j, f6, t6, j0, j66, y6⟩ := op56 t5.ok hs s5 (by omega)
  have x6 := x5.mono t6.grow
  have b6 := b5.mono t6.grow
  have k6 := k5.mono t6.grow
  have v6 := (((v1.mono t3.grow).mono t4.grow).mono t5.grow).mono t6.grow
  have f7 := op43 (P := Tryz.prog) k6 b6
  have f8 := op32 (P := Tryz.prog) x6 (v := y) (y6.elim (fun h => .inl ⟨h.1, h.2.1⟩) .inr)
  have hn6 : d6.names = [] := t6.names.trans (t5.names.trans (t4.names.trans (t3.names.trans (t1.names.trans hn))))
  have f9 := sym_ok t6.ok v6 hn6 (by omega) (by omega)
  unfold prim5R prim5
  refine (stp_of (run2 (nm := nm42) rfl rfl f1) _).trans ?_
  refine (byB_f rfl _ _).trans ?_
  refine (byB_f rfl _ _).trans ?_
  refine (byB_f rfl _ _).trans ?_
  refine (stp_of (run1 (nm := nm40) rfl rfl f2) _).trans ?_
  refine (byB_f ?_ _ _).trans ?_
  · show (!eqI (.ofNat (l ++ m).length) (IntKind.i64.wrap (.ofNat l.length + .ofNat m.length))) = false
    rw [wA (i := l.length) (k := m.length) (by omega), hlm, eqI_self]; rfl
  refine (stp_of (run1 (nm := nm44) rfl rfl f3) _).trans ?_
  refine (stp_of (run1 (nm := nm45) rfl rfl f4) _).trans ?_
  refine (stp_of (run1 (nm := nm55) rfl rfl f5) _).trans ?_
  refine (stp_of (run1 (nm := nm56) rfl rfl f6) _).trans ?_
  refine (stp_of (run2 (nm := nm43) rfl rfl f7) _).trans ?_
  refine (byB_f rfl _ _).trans ?_
  refine (stp_of (run2 (nm := nm32) rfl rfl f8) _).trans ?_
  refine (byB_f rfl _ _).trans ?_
  exact f9
theorem law5 {ta ua : List Nat} (hta : ∀ b ∈ ta, b < 256) (hua : ∀ b ∈ ua, b < 256) (g : Bool) (ls : List Nat) (nl : Bool) : b5s Tryz.prog ta ua g (u32N ls) ls.length nl = some (.bool true) := by
  refine (tl5 _ _ _ _ _ _ _ _ _ _ _ _ _ _ _ _ _ _ _ _ _ _ _ _ _ _ _ _).trans ?_
  by_cases h1 : ta.length ≤ 1500
  case neg => rw [leI_f (show (1500 : Int) < .ofNat ta.length by simp only [Int.ofNat_eq_natCast]; omega)]; rfl
  rw [leI_t (show Int.ofNat ta.length ≤ 1500 by simp only [Int.ofNat_eq_natCast]; omega)]
  refine (byB_f rfl _ _).trans ?_
  by_cases h2 : ua.length ≤ 1500
  case neg => rw [leI_f (show (1500 : Int) < .ofNat ua.length by simp only [Int.ofNat_eq_natCast]; omega)]; rfl
  rw [leI_t (show Int.ofNat ua.length ≤ 1500 by simp only [Int.ofNat_eq_natCast]; omega)]
  refine (byB_f rfl _ _).trans ?_
  by_cases h3 : ls.length ≤ 80
  case neg => rw [leI_f (show (80 : Int) < .ofNat ls.length by simp only [Int.ofNat_eq_natCast]; omega)]; rfl
  rw [leI_t (show Int.ofNat ls.length ≤ 80 by simp only [Int.ofNat_eq_natCast]; omega)]
  refine (byB_f rfl _ _).trans ?_
  have plb : ∀ l : List Nat, AV.plains [.lst (bytesA l) l.length false false] = true := fun l => by
    show (AV.plains (bytesA l) && true) = true
    rw [bytesA_plains]; rfl
  obtain ⟨c1, c2⟩ := chars15 H0 hta (by omega)
  obtain ⟨e1, e2⟩ := chars15 H0 hua (by omega)
  refine (ifK_t (plb ta) _).trans ?_
  refine (ifK_t c1 _).trans ?_
  refine (ifK_t (plb ua) _).trans ?_
  refine (ifK_t e1 _).trans ?_
  rcases c2 with c2 | ⟨l, l1, l2, l3, l4⟩
  · exact byB_t (leI_t c2) _ _
  rw [l4]
  refine (byB_f rfl _ _).trans ?_
  rcases e2 with e2 | ⟨m, m1, m2, m3, m4⟩
  · exact byB_t (leI_t e2) _ _
  rw [m4]
  refine (byB_f rfl _ _).trans ?_
  have hpl : AV.plain (nA g (u32N ls) ls.length nl) = true := by
    show (true && (AV.plains (u32N ls) && true)) = true
    rw [u32N_plains]; rfl
  refine (ifK_t hpl _).trans ?_
  have h16 : c16 g (u32N ls) ls.length = true := by unfold c16; rw [isU0_u32, limN_u32, Nat.beq_refl]; rfl
  refine (ifK_t h16 _).trans ?_
  have e16 : s16' g (u32N ls) ls.length = q16 g ls := by unfold s16'; rw [limN_u32]
  rw [e16]
  cases hq : q16 g ls with
  | false => rfl
  | true =>
    refine (byB_t rfl _ _).trans ?_
    have hs := q16_snd hq
    subst l2
    subst m2
    have hll := flat_len l
    have hlm := flat_len m
    have o0 : Okt (newHid 20000) 0 := ⟨rfl, Int.le_refl _⟩
    obtain ⟨k1, v, d1, r1, t1, v1⟩ := txt_to o0 l1 (by omega) (by omega)
    obtain ⟨k2, w, d2, r2, t2, w2⟩ := txt_to t1.ok m1 (by omega) (by omega)
    have v2 := v1.mono t2.grow
    obtain ⟨x, d3, k, r3, t3, k0, k66, x3⟩ := int_to t2.ok hs (by omega)
    have v3 := v2.mono t3.grow
    have w3 := w2.mono t3.grow
    obtain ⟨g', ls', n3⟩ := num_any x3
    have fin := prim_ok t3.ok v3 w3 n3 (t3.names.trans (t2.names.trans t1.names)) (by omega) (by omega) (by omega)
    have h17 : cWs (newHid 20000) (l.flatMap enc) = true := k1
    have h17b : DWs (newHid 20000) (l.flatMap enc) = d1 := by show (mkS _ _).2 = _; rw [r1]
    have h18b : DWs d1 (m.flatMap enc) = d2 := by show (mkS _ _).2 = _; rw [r2]
    have h19 : DIs d2 g (u32N ls) = d3 := by show (intO _ _ (limN _)).2 = _; rw [limN_u32, r3]
    have a1' : tWs (newHid 20000) (l.flatMap enc) = v.1 ∧ nWs (newHid 20000) (l.flatMap enc) = v.2 := by
      show (mkS _ _).1.1.1 = _ ∧ (mkS _ _).1.1.2 = _
      rw [r1]; exact ⟨rfl, rfl⟩
    have a2' : tWs d1 (m.flatMap enc) = w.1 ∧ nWs d1 (m.flatMap enc) = w.2 := by
      show (mkS _ _).1.1.1 = _ ∧ (mkS _ _).1.1.2 = _
      rw [r2]; exact ⟨rfl, rfl⟩
    have a3' : tIs d2 g (u32N ls) = x.1 ∧ nIs d2 g (u32N ls) = x.2 ∧ eIs d2 g (u32N ls) = 0 := by
      show (intO _ _ (limN _)).1.1.1 = _ ∧ (intO _ _ (limN _)).1.1.2 = _ ∧ (intO _ _ (limN _)).1.2 = _
      rw [limN_u32, r3]; exact ⟨rfl, rfl, rfl⟩
    rw [h17b, h18b, h19, a1'.1, a1'.2, a2'.1, a2'.2, a3'.1, a3'.2.1, a3'.2.2, l3, m3]
    refine (ifK_t h17 _).trans ?_
    refine (ifK_t (show cWs d1 (m.flatMap enc) = true from k2) _).trans ?_
    refine (ifK_t hpl _).trans ?_
    refine (ifK_t (show cIs d2 g (u32N ls) ls.length = true from snd_of hs) _).trans ?_
    exact fin
end Go.Am.Txt
end
section
namespace Go.Am
open Go Go.Proofs
theorem Rel.seen {H : Hid → Nat → (Nat → Prop) → World → Prop} {z : Nat → Nat → Option Value} {w : World} (hz : ∀ b o v, z b o = some v → w.cell? ⟨b, o, none⟩ = some v) : Rel (Env.cells z H) St.empty w where
  wf := .empty
  lt r b base e := by cases e
  obj r p e := by cases e
  z b o v e := hz b o v e
  zap b o v r base _ e := by cases e
  row r o b base _ e := by cases e
  mapo r es b base _ e := by cases e
  iter r x n b base _ e := by cases e
  coh r1 r2 b b1 b2 e := by cases e
  b0 r o b base _ e := by cases e
  hid n d b _ e := by cases e
  own n c e := e.elim
  hlt n b e := by cases e
theorem Step.below {H : Hid → Nat → (Nat → Prop) → World → Prop} {z : Nat → Nat → Option Value} {s' : St} {E' : Env} {w w' : World} (h : Step (Env.cells z H) St.empty w E' s' w') : Go.RowKit.Below w.heap.size w w' :=
  ⟨h.os, h.tape, h.output, h.size, fun k hk => h.fr k hk (fun r base e => by cases e) (fun n e => e)⟩
theorem returns_of_Y {P : Program} {G : Glob} (hm : P.follows .mixedOrders = true) (hn : NoNG P) {X : Known} (hX : KnownOk P G X) {Y : KnownK AV} (hY : KnownKOk X Y) {D : Live} {m loops n : Nat} {f : FuncId} {args : List AV} {s : St} {E : Env} {w : World} {vs : List Value} {x : AV}
    (h : Rel E s w) (hG : GlobOk E G w) (ha : VRL E args vs) (hr : bodyY P G X Y loops n D Res.val? m P.funcs[f]? args s = some x) (hb : ∀ fn, P.funcs[f]? = some fn → fn.body.isSome = true) :
    Calls P f ⟨vs⟩ w fun e w' => ∃ v' E' s', e = .returned v' ∧ Step E s w E' s' w' ∧ VR E' x v' := by
  have hr := bodyY_le hY hr
  have := bodyD_ok (D := D) hm hn (callN_ok hm hn hX loops n) m f args s E w vs h hG ha
  cases hb' : bodyD P G (callN P G X loops n) D m P.funcs[f]? args s with
  | ret y s1 =>
    rw [hb'] at hr this
    simp only [Res.val?, Option.some.injEq] at hr
    subst hr
    rcases this with ⟨_, h2⟩ | ⟨v', w', E', h1, _, _⟩
    · exact Calls.mono h2 fun e w' ⟨v', E', he, hs, hv⟩ => ⟨v', E', s1, he, hs, hv⟩
    · cases hf : P.funcs[f]? with
      | none => rw [hf] at hb'; simp [bodyD] at hb'
      | some fn =>
        have h4 := run_callFunc ⟨fn, hf, hb fn hf, hn f fn hf⟩ ⟨vs⟩ w
        rw [h4] at h1
        cases h1
  | _ => rw [hb'] at hr; cases hr
end Go.Am
namespace Go.Am.Txt
open Go Go.Am Go.Proofs Go.Am.Sto
/-! ## What is known -/
theorem k8u : OkF G0 8 (newX F8) := k8
theorem k17v : MethOk Tryz.prog (GU H0) 17 (F17v cWs tWs nWs eDs DWs) := k17
theorem k15u : OkF (GU H0) 15 (wX (F15v (g15 H0 Tryz.prog) (ls15 H0 Tryz.prog) (ln15 H0 Tryz.prog) (tt15 H0 Tryz.prog) (nl15 H0 Tryz.prog) (at15 H0 Tryz.prog))) := w15 H0
theorem kX5 : KnownOk Tryz.prog (GU H0) (X5s Tryz.prog) := (((((((KnownOk.none _ _).add (u0 k8u)).add (u0 k9)).add k15u).add k16).add k17v).add k18t).add k14
theorem kY5 : KnownKOk (X5s Tryz.prog) (Y5s Tryz.prog : KnownK AV) := addK (addK (addK (addY (addY (KnownKOk.none _) 15 (wK_le _)) 16 (zK_le _)) 17 _) 18 _) 14 _
/-! ## The world -/
def zAll (w : World) : Nat → Nat → Option Value := fun b o => w.cell? ⟨b, o, none⟩
structure Glo (w : World) : Prop where
  first : ∀ i v, (firstTab.map (Value.int .u8))[i]? = some v → w.cell? ⟨0, i, none⟩ = some v
  accept : ∀ i v, (acceptTab.map (Value.int .u8))[i]? = some v → w.cell? ⟨1, i, none⟩ = some v
  range : ∃ v, w.cell? ⟨3, 0, none⟩ = some (.iface 275 v)
  pow : Lib.TabIs Tryz.prog w "internal/strconv.uint64pow10" .u64 Lib.pow10Tab
theorem glob_start {w : World} (hg : Glo w) : GlobOk (Env.cells (zAll w) H0) (GU H0) w := by
  have hT := hg.pow
  unfold Lib.TabIs World.var? at hT
  rw [show Tryz.prog.globalNamed "internal/strconv.uint64pow10" = some 4 by kernel_rfl] at hT
  simp only [Option.bind_some] at hT
  split at hT
  case h_2 => cases hT
  rename_i c ty fz hc
  simp only [Option.some.injEq] at hT
  have hlen : (Lib.pow10Tab.map fun z => Value.int .u64 z).length = 20 := by simp [Lib.pow10Tab]
  have cell : ∀ i v, (Lib.pow10Tab.map fun z => Value.int .u64 z)[i]? = some v → zAll w 4 i = some v := fun i v hv => by
    show w.cell? ⟨4, i, none⟩ = _
    unfold World.cell?
    simp only [hc]
    show c[i]? = _
    rw [hT, List.getElem?_toArray]; exact hv
  have vals : ∀ (k : IntKind) (l : List Int), VRL (Env.cells (zAll w) H0) (l.map (AV.int k)) (l.map fun z => Value.int k z) := fun k l => by
    induction l with
    | nil => exact .nil
    | cons z l ih => exact .cons (.int _ _) ih
  refine ⟨⟨fun g cs hcs => ?_, fun g n hn => ?_⟩, rfl⟩
  · unfold GU at hcs
    simp only at hcs
    split at hcs
    · cases hcs; exact ⟨_, vals _ _, hg.first⟩
    · cases hcs; exact ⟨_, vals _ _, hg.accept⟩
    · cases hcs
      obtain ⟨v, hv⟩ := hg.range
      refine ⟨[.iface 275 v], .cons (.ifc (.undef _)) .nil, fun i u hu => ?_⟩
      cases i with
      | zero => cases hu; exact hv
      | succ i => cases hu
    · cases hcs; exact ⟨_, vals _ _, cell⟩
    · cases hcs
  · unfold GU at hn
    simp only at hn
    split at hn
    · cases hn
      refine ⟨⟨.int .u64 1, cell 0 _ rfl⟩, c, ty, fz, hc, ?_⟩
      rw [hT, List.size_toArray, hlen]
    · cases hn
/-! ## The arguments -/
def IsLimbs (w : World) (a : Option Addr) (len cap : Nat) (ls : List Nat) : Prop :=
  len ≤ cap ∧ ((a = none ∧ cap = 0 ∧ ls = []) ∨ ∃ x, a = some x ∧ ls.length = len ∧ ∀ i (hi : i < ls.length), w.cell? (x.add i) = some (.int .u32 (.ofNat ls[i])))
theorem limbs_VRL {E : Env} : ∀ l : List Nat, VRL E (u32N l) (l.map fun x => Value.int .u32 (.ofNat x))
  | [] => .nil
  | _ :: l => .cons (.int _ _) (limbs_VRL l)
theorem IsLimbs.VR {w : World} {H : Hid → Nat → (Nat → Prop) → World → Prop} {a : Option Addr} {len cap : Nat} {ls : List Nat} (h : IsLimbs w a len cap ls) : VR (Env.cells (zAll w) H) (.lst (u32N ls) ls.length false a.isNone) (.slice a len cap) := by
  obtain ⟨hl, ⟨rfl, rfl, rfl⟩ | ⟨x, rfl, hlen, hc⟩⟩ := h
  · obtain rfl : len = 0 := by omega
    exact .lst .nil (Nat.le_refl _) (fun e => by cases e) rfl (fun _ => rfl) (fun e => absurd rfl e)
  · rw [hlen]
    refine .lst (limbs_VRL ls) hl (fun e => by cases e) rfl (fun e => by cases e) fun hne => ?_
    have hp : 0 < ls.length := by cases ls with | nil => exact absurd rfl hne | cons => simp
    obtain ⟨b, off, spot⟩ := x
    have hspot : spot = none := by simpa [Addr.add] using World.cell?_spot (hc 0 hp)
    subst hspot
    refine ⟨b, off, rfl, fun i v hv => ?_⟩
    rw [List.getElem?_map] at hv
    by_cases hi : i < ls.length
    · have := hc i hi
      rw [Go.WideShapes.add_plain] at this
      rw [List.getElem?_eq_getElem hi] at hv
      show w.cell? ⟨b, off + i, none⟩ = _
      rw [this, ← hv]; rfl
    · rw [List.getElem?_eq_none (by omega)] at hv; cases hv
theorem bytes_256 (s : ByteArray) : ∀ b ∈ s.data.toList.map (·.toNat), b < 256 := fun b hb => by
  obtain ⟨c, _, rfl⟩ := List.mem_map.1 hb
  exact c.toNat_lt
theorem walk5 (s s2 : ByteArray) (g : Bool) (a : Option Addr) (len cap : Nat) (ls : List Nat) (w : World) (ha : IsLimbs w a len cap ls) (hg : Glo w) :
    Calls Tryz.prog 5 #[.string s, .string s2, .agg #[.bool g, .slice a len cap]] w fun e w' => e = .returned (.bool true) ∧ Go.RowKit.Below w.heap.size w w' := by
  have h := returns_of_Y (D := noLive) (m := 5) (loops := 5) (n := 8) (f := 5) (vs := [.string s, .string s2, .agg #[.bool g, .slice a len cap]]) hm hn kX5 kY5 (Rel.seen (H := H0) (z := zAll w) fun _ _ _ e => e) (glob_start hg)
    (.cons (.str s) (.cons (.str s2) (.cons (.agg (.cons (.bool g) (.cons ha.VR .nil))) .nil))) (law5 (bytes_256 s) (bytes_256 s2) g ls a.isNone) (fun fn hf => by
      have : fn = Tryz.f5 := Option.some.inj (hf.symm.trans (show Tryz.prog.funcs[5]? = some Tryz.f5 by kernel_rfl))
      subst this; rfl)
  refine Calls.mono h fun e w' ⟨v', E', s', he, hs, hv⟩ => ?_
  cases hv
  exact ⟨he, Step.below hs⟩
end Go.Am.Txt
end
