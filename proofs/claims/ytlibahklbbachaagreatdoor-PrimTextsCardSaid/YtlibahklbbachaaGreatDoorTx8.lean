import Derived.Test.YtlibahklbbachaaGreatDoorTx7
import Derived.Test.YtlibahklbbachaaGreatDoorProg
set_option autoImplicit false
set_option maxRecDepth 100000
set_option linter.unusedSimpArgs false
set_option linter.unusedVariables false
section
namespace Go.Am.Sto
open Go Go.Am Go.Proofs
abbrev V2 := Int × Int
abbrev Ob := Int × List V2
def cellsA : List V2 → List AV
  | [] => []
  | p :: l => .int .i64 p.1 :: .int .i64 p.2 :: cellsA l
def cellsV : List V2 → List Value
  | [] => []
  | p :: l => .int .i64 p.1 :: .int .i64 p.2 :: cellsV l
def objsA : List (Ob × Bool) → List AV
  | [] => []
  | p :: r => .int .i64 p.1.1 :: .lst (cellsA p.1.2) p.1.2.length false p.2 :: .undef :: .undef :: .undef :: .undef :: .undef :: .undef :: .undef :: .undef :: objsA r
def stoA (L U : Int) (rs : List (Ob × Bool)) (nm : AV) : List AV := [.int .i64 L, .int .i64 U, .lst (objsA rs) rs.length false rs.isEmpty, nm, .undef]
/-! ## What is asked of objects -/
def objAt (rows : List Ob) (t N : Int) : Option Ob :=
  match eqI t 7, N with
  | true, .ofNat i => rows[i]?
  | _, _ => none
def kindOf (rows : List Ob) (t N : Int) : Int := match objAt rows t N with | some o => o.1 | none => 0
def lenOf (rows : List Ob) (t N : Int) : Int := match objAt rows t N with | some o => .ofNat o.2.length | none => 0
def getOf (rows : List Ob) (t N j : Int) : V2 × Int :=
  match objAt rows t N with
  | some o => match j with
    | .ofNat j => match o.2[j]? with
      | some p => (p, 0)
      | none => ((0, 0), 12)
    | .negSucc _ => ((0, 0), 12)
  | none => ((0, 0), 10)
def scal (N : Int) : Bool := byB (leI 0 N) (byB (leI N 1114111) (byB (leI 55296 N) (byB (leI N 57343) false true) true) false) false
def sndB (n : Nat) (t N : Int) : Bool :=
  byB (eqI t 0) (eqI N 0) (byB (eqI t 1) (eqI N 0) (byB (eqI t 2) (eqI N 0) (byB (eqI t 3) (eqI N 0) (byB (eqI t 9) (eqI N 0) (byB (eqI t 4) true (byB (eqI t 5) (scal N)
    (byB (eqI t 8) (byB (leI 0 N) (leI N 255) false) (byB (eqI t 6) false (byB (eqI t 7) (byB (leI 0 N) (!leI (.ofNat n) N) false) false)))))))))
def sndM (k n : Nat) (t N : Int) : Bool := byB (eqI t 6) (byB (leI 0 N) (!leI (.ofNat k) N) false) (sndB n t N)
theorem snd_no6 {n : Nat} {t N : Int} (h : sndB n t N = true) : eqI t 6 = false := by
  cases h6 : eqI t 6 with
  | false => rfl
  | true =>
    have ht : t = 6 := by
      cases t with
      | ofNat a => exact congrArg Int.ofNat (Nat.eq_of_beq_eq_true (show a.beq 6 = true from h6))
      | negSucc a => cases h6
    subst ht
    cases h
theorem sndM_of {k n : Nat} {t N : Int} (h : sndB n t N = true) : sndM k n t N = true := by unfold sndM; rw [snd_no6 h]; exact h
/-! ## The program's -/
abbrev HT := Hid → Nat → (Nat → Prop) → World → Prop
def look (P : Program) (H : HT) (f : FuncId) (L U : Int) (cs : List AV) (n : Nat) (fl : Bool) (more : List AV) (u tt : AV) (gt : Bool) : Option AV :=
  bodyY P { at_ := fun _ => none, H := H } .none .none 0 5 noLive Res.val? 0 P.funcs[f]? (.ptrL [.int .i64 L, .int .i64 U, .lst cs n gt fl, tt, u] 0 :: more) St.empty
abbrev val (t N : Int) : AV := .agg [.int .i64 t, .int .i64 N]
abbrev mt : AV := .lst [] 0 true true
section
variable (H : HT) (L U t : Int) (i j n : Nat) (cs : List AV) (fl gt : Bool) (u nm : AV)
theorem k83p : look Tryz.prog H 83 L U cs n fl [val t (.ofNat i)] u nm gt = byB (!eqI t 7) (some (.int .i64 0)) (byB (leI (.ofNat n) (.ofNat i)) (some (.int .i64 0)) (ifK (Nat.blt i n && nonNil cs) (opt1 .i64 (fun k => some (.int .i64 k)) (cs[i * 10]?)))) := by kernel_rfl
theorem k83n : look Tryz.prog H 83 L U cs n fl [val t (.negSucc i)] u nm gt = byB (!eqI t 7) (some (.int .i64 0)) (some (.int .i64 0)) := by kernel_rfl
theorem k92p : look Tryz.prog H 92 L U cs n fl [val t (.ofNat i)] u nm gt = byB (!eqI t 7) (some (.int .i64 0)) (byB (leI (.ofNat n) (.ofNat i)) (some (.int .i64 0)) (ifK (Nat.blt i n && nonNil cs) (optLst (fun _ m _ _ => some (.int .i64 (.ofNat m))) (cs[i * 10 + 1]?)))) := by kernel_rfl
theorem k92n : look Tryz.prog H 92 L U cs n fl [val t (.negSucc i)] u nm gt = byB (!eqI t 7) (some (.int .i64 0)) (some (.int .i64 0)) := by kernel_rfl
abbrev err (e : Int) : Option AV := some (.tup [.agg [.int .i64 0, .int .i64 0], .int .i64 e])
theorem k79p : look Tryz.prog H 79 L U cs n fl [val t (.ofNat i), .int .i64 (.ofNat j)] u nm gt = byB (!eqI t 7) (err 10) (byB (leI (.ofNat n) (.ofNat i)) (err 10) (ifK (Nat.blt i n && nonNil cs)
    (optLst (fun _ m _ _ => byB (leI (.ofNat m) (.ofNat j)) (err 12) (optLst (fun c m _ _ => ifK (Nat.blt j m && nonNil c) (opt2 (fun a b => some (.tup [.agg [.int .i64 a, .int .i64 b], .int .i64 0])) (cutN 2 (j * 2) c))) (cs[i * 10 + 1]?))) (cs[i * 10 + 1]?)))) := by kernel_rfl
theorem k79q : look Tryz.prog H 79 L U cs n fl [val t (.ofNat i), .int .i64 (.negSucc j)] u nm gt = byB (!eqI t 7) (err 10) (byB (leI (.ofNat n) (.ofNat i)) (err 10) (ifK (Nat.blt i n && nonNil cs) (err 12))) := by kernel_rfl
theorem k79n (J : Int) : look Tryz.prog H 79 L U cs n fl [val t (.negSucc i), .int .i64 J] u nm gt = byB (!eqI t 7) (err 10) (err 10) := by kernel_rfl
theorem k142 : look Tryz.prog H 142 L U cs n fl [] u nm gt = some (.int .i64 U) := by kernel_rfl
def yes : Option AV := some (.bool true)
def no : Option AV := some (.bool false)
def vr3 (q : Int) : Option AV := byB (!leI q 57343) (byB (leI q 1114111) yes no) no
def vr (q : Int) : Option AV := byB (leI 0 q) (byB (!leI 55296 q) yes (vr3 q)) (vr3 q)
def sndT (t : Int) (z c5 c8 c6 c7 : Option AV) : Option AV :=
  byB (eqI t 0) z (byB (eqI t 1) z (byB (eqI t 2) z (byB (eqI t 3) z (byB (eqI t 9) z (byB (eqI t 4) yes (byB (eqI t 5) c5 (byB (eqI t 8) c8 (byB (eqI t 6) c6 (byB (eqI t 7) c7 no)))))))))
theorem k25p (ns : List AV) (k : Nat) (g6 f6 : Bool) : look Tryz.prog H 25 L U cs n fl [val t (.ofNat i)] u (.lst ns k g6 f6) gt = sndT t (some (.bool (eqI (.ofNat i) 0))) (byB (leI (.ofNat i) 1114111) (vr (IntKind.i32.wrap (.ofNat i))) no) (some (.bool (!leI 256 (.ofNat i))))
    (some (.bool (!leI (.ofNat k) (.ofNat i)))) (byB (!eqI t 7) no (byB (leI (.ofNat n) (.ofNat i)) no (ifK (Nat.blt i n && nonNil cs) yes))) := by kernel_rfl
theorem k25n (ns : List AV) (k : Nat) (g6 f6 : Bool) : look Tryz.prog H 25 L U cs n fl [val t (.negSucc i)] u (.lst ns k g6 f6) gt = sndT t no no no no (byB (!eqI t 7) no no) := by kernel_rfl
theorem k25pu (nv : Value) : look Tryz.prog H 25 L U cs n fl [val t (.ofNat i)] u (.lit nv) gt = sndT t (some (.bool (eqI (.ofNat i) 0))) (byB (leI (.ofNat i) 1114111) (vr (IntKind.i32.wrap (.ofNat i))) no) (some (.bool (!leI 256 (.ofNat i))))
    none (byB (!eqI t 7) no (byB (leI (.ofNat n) (.ofNat i)) no (ifK (Nat.blt i n && nonNil cs) yes))) := by kernel_rfl
theorem k25nu (nv : Value) : look Tryz.prog H 25 L U cs n fl [val t (.negSucc i)] u (.lit nv) gt = sndT t no no no no (byB (!eqI t 7) no no) := by kernel_rfl
end
end Go.Am.Sto
end
section
namespace Go.Am.Sto
open Go Go.Am Go.Proofs
/-! ## The meaning -/
def CellsAt (w : World) (b ty base : Nat) (vs : List Value) : Prop :=
  ∃ c, w.heap[b]? = some (.cells c ty (0, 0)) ∧ base + vs.length ≤ c.size ∧ ∀ i v, vs[i]? = some v → c[base + i]? = some v
def SliceIs (own : Nat → Prop) (w : World) (ty es len : Nat) (vs : List Value) (v : Value) (b : Nat) : Prop :=
  ∃ base cap, v = .slice (some ⟨b, base, none⟩) len cap ∧ len ≤ cap ∧ own b ∧ ∃ c, w.heap[b]? = some (.cells c ty (0, 0)) ∧ base + cap * es ≤ c.size ∧ ∀ i v, vs[i]? = some v → c[base + i]? = some v
def SlotsIs (own : Nat → Prop) (w : World) (sl : List V2) (sv : Value) (b : Nat) : Prop :=
  (sl = [] ∧ ∃ a cap, sv = .slice a 0 cap ∧ (a = none → cap = 0)) ∨ (sl ≠ [] ∧ SliceIs own w 29 2 sl.length (cellsV sl) sv b)
structure ObjsIs (own : Nat → Prop) (w : World) (rows : List Ob) (ovs : List Value) (sb : Nat → Nat) (b bo : Nat) : Prop where
  len : ovs.length = 10 * rows.length
  kind : ∀ i o, rows[i]? = some o → ovs[10 * i]? = some (.int .i64 o.1)
  slots : ∀ i o, rows[i]? = some o → ∃ sv, ovs[10 * i + 1]? = some sv ∧ SlotsIs own w o.2 sv (sb i)
  far : ∀ i o, rows[i]? = some o → o.2 ≠ [] → sb i ≠ b ∧ sb i ≠ bo
  apart : ∀ i j o p, rows[i]? = some o → rows[j]? = some p → o.2 ≠ [] → p.2 ≠ [] → sb i = sb j → i = j
def strV (l : List Nat) : Value := .string ⟨(l.map UInt8.ofNat).toArray⟩
def strA (l : List Nat) : AV := .str ((l.map UInt8.ofNat).map (·.toNat))
def idxV : Nat → List (List Nat) → List Value
  | _, [] => []
  | i, _ :: r => .int .i64 (.ofNat i) :: idxV (i + 1) r
def NamesIs (own : Nat → Prop) (w : World) (names : List (List Nat)) (nv mv : Value) : Prop :=
  ((names = [] ∧ nv = .slice none 0 0) ∨ ∃ bn, names ≠ [] ∧ SliceIs own w 9 1 names.length (names.map strV) nv bn) ∧
    ∃ bm ents clock, mv = .map (some bm) ∧ own bm ∧ w.heap[bm]? = some (.map ents clock) ∧ ents.toList.map (·.key) = names.map strV ∧ ents.toList.map (·.val) = idxV 0 names
theorem NamesIs.keep {own own' : Nat → Prop} {w w1 : World} {names : List (List Nat)} {nv mv : Value} (h : NamesIs own w names nv mv) (ho : ∀ c, own c → own' c) (hc : ∀ c arr, own c → w.heap[c]? = some (.cells arr 9 (0, 0)) → w1.heap[c]? = w.heap[c]?)
    (hm : ∀ c ents clock, own c → w.heap[c]? = some (.map ents clock) → w1.heap[c]? = w.heap[c]?) : NamesIs own' w1 names nv mv := by
  obtain ⟨h1, bm, ents, clock, e1, e2, e3, e4⟩ := h
  refine ⟨?_, bm, ents, clock, e1, ho _ e2, (hm bm ents clock e2 e3).trans e3, e4⟩
  rcases h1 with h1 | ⟨bn, h2, base, cap, k1, k2, k3, c, k4, k5⟩
  · exact .inl h1
  · exact .inr ⟨bn, h2, base, cap, k1, k2, ho _ k3, c, (hc bn c k3 k4).trans k4, k5⟩
theorem NamesIs.one {own : Nat → Prop} {w : World} {names : List (List Nat)} {nv mv : Value} (h : NamesIs own w names nv mv) : nv.oneCell' = true := by
  rcases h.1 with ⟨_, rfl⟩ | ⟨bn, _, base, cap, rfl, _⟩ <;> rfl
def H0 : Hid → Nat → (Nat → Prop) → World → Prop := fun d b own w =>
  ∃ (L U : Int) (ov nv mv : Value), d.kind = 0 ∧ d.nums = [L, U] ∧ NamesIs own w d.names nv mv ∧ (0 ≤ U ∧ U ≤ L ∧ L ≤ 1048576 ∧ (d.rows.length : Int) ≤ U) ∧ own b ∧ CellsAt w b 66 0 [.int .i64 L, .int .i64 U, ov, nv, mv] ∧
    ((d.rows = [] ∧ ov = .slice none 0 0) ∨ ∃ (bo : Nat) (ovs : List Value) (sb : Nat → Nat), d.rows ≠ [] ∧ SliceIs own w 115 10 d.rows.length ovs ov bo ∧ bo ≠ b ∧ ObjsIs own w d.rows ovs sb b bo)
def G0 : Glob := { at_ := fun _ => none, H := H0 }
theorem G0_plain : GlobPlain G0 := fun _ _ h => by cases h
/-! ## It is seen as cells that stay -/
def View (d : Hid) (cs : List AV) : Prop := ∃ (L U : Int) (rs : List (Ob × Bool)), d.nums = [L, U] ∧ rs.map (·.1) = d.rows ∧ cs = stoA L U rs (.lst (d.names.map strA) d.names.length false d.names.isEmpty)
theorem cells_VRL {E : Env} : ∀ l : List V2, VRL E (cellsA l) (cellsV l)
  | [] => .nil
  | _ :: l => .cons (.int _ _) (.cons (.int _ _) (cells_VRL l))
theorem cellsA_len : ∀ l : List V2, (cellsA l).length = 2 * l.length
  | [] => rfl
  | _ :: l => by simp only [cellsA, List.length_cons, cellsA_len l]; omega
theorem slots_VR {own : Nat → Prop} {w : World} {E : Env} (hz : ∀ b o v, own b → w.cell? ⟨b, o, none⟩ = some v → E.z b o = some v) {sl : List V2} {sv : Value} {b : Nat} (h : SlotsIs own w sl sv b) : ∃ fl, VR E (.lst (cellsA sl) sl.length false fl) sv := by
  rcases h with ⟨rfl, a, cap, rfl, h1⟩ | ⟨h0, base, cap, rfl, h1, h2, c, h3, h4, h5⟩
  · exact ⟨a.isNone, .lst .nil (Nat.zero_le _) (fun e => by cases e) rfl h1 (fun e => absurd rfl e)⟩
  · refine ⟨false, .lst (cells_VRL sl) h1 (fun e => by cases e) rfl (fun e => by cases e) fun _ => ⟨b, base, rfl, fun i v hv => hz b _ v h2 ?_⟩⟩
    rw [World.cell?, h3]
    exact h5 i v hv
theorem objs_VRL {E : Env} : ∀ (rows : List Ob) (ovs : List Value), ovs.length = 10 * rows.length → (∀ i o, rows[i]? = some o → ovs[10 * i]? = some (.int .i64 o.1)) →
    (∀ i o, rows[i]? = some o → ∃ sv, ovs[10 * i + 1]? = some sv ∧ ∃ fl, VR E (.lst (cellsA o.2) o.2.length false fl) sv) → ∃ rs : List (Ob × Bool), rs.map (·.1) = rows ∧ VRL E (objsA rs) ovs
  | [], ovs, hl, _, _ => by
    have : ovs = [] := List.eq_nil_of_length_eq_zero (by simpa using hl)
    subst this
    exact ⟨[], rfl, .nil⟩
  | o :: rows, ovs, hl, hk, hs => by
    match ovs, hl with
    | v0 :: v1 :: v2 :: v3 :: v4 :: v5 :: v6 :: v7 :: v8 :: v9 :: rest, hl =>
      obtain ⟨rs, h1, h2⟩ := objs_VRL rows rest (by simp only [List.length_cons] at hl; omega) (fun i p hp => by
          have := hk (i + 1) p (by simpa using hp)
          rw [show 10 * (i + 1) = 10 * i + 10 by omega] at this
          simpa only [List.getElem?_cons_succ] using this) (fun i p hp => by
          have := hs (i + 1) p (by simpa using hp)
          rw [show 10 * (i + 1) + 1 = 10 * i + 1 + 10 by omega] at this
          simpa only [List.getElem?_cons_succ] using this)
      have k0 := hk 0 o rfl
      obtain ⟨sv, k1, fl, k2⟩ := hs 0 o rfl
      simp only [Nat.mul_zero, List.getElem?_cons_zero, Option.some.injEq] at k0
      simp only [Nat.mul_zero, Nat.zero_add, List.getElem?_cons_succ, List.getElem?_cons_zero, Option.some.injEq] at k1
      subst k0 k1
      exact ⟨(o, fl) :: rs, by simp [h1], .cons (.int _ _) (.cons k2 (.cons (.undef _) (.cons (.undef _) (.cons (.undef _) (.cons (.undef _) (.cons (.undef _) (.cons (.undef _) (.cons (.undef _) (.cons (.undef _) h2)))))))))⟩
    | [], hl | [_], hl | [_, _], hl | [_, _, _], hl | [_, _, _, _], hl | [_, _, _, _, _], hl | [_, _, _, _, _, _], hl | [_, _, _, _, _, _, _], hl | [_, _, _, _, _, _, _, _], hl | [_, _, _, _, _, _, _, _, _], hl => simp only [List.length_cons, List.length_nil] at hl; omega
theorem names_VRL {E : Env} : ∀ l : List (List Nat), VRL E (l.map strA) (l.map strV)
  | [] => .nil
  | a :: l => .cons (.str (E := E) ⟨(a.map UInt8.ofNat).toArray⟩) (names_VRL l)
open Classical in
theorem H0_view (d : Hid) (b : Nat) (own : Nat → Prop) (w : World) (h : H0 d b own w) : ∃ cs vs z, View d cs ∧ VRL (Env.cells z G0.H) cs vs ∧ (∀ i v, vs[i]? = some v → z b i = some v) ∧ ∀ c o v, z c o = some v → w.cell? ⟨c, o, none⟩ = some v ∧ own c := by
  obtain ⟨L, U, ov, nv, mv, h1, h2, h3, _, h4, ⟨c, g1, g2, g3⟩, h6⟩ := h
  let z : Nat → Nat → Option Value := fun c o => if own c then w.cell? ⟨c, o, none⟩ else none
  have hz : ∀ b o v, own b → w.cell? ⟨b, o, none⟩ = some v → (Env.cells z G0.H).z b o = some v := fun b o v ho e => by
    show (if own b then _ else _) = _
    rw [if_pos ho]; exact e
  have hnm : VR (Env.cells z G0.H) (.lst (d.names.map strA) d.names.length false d.names.isEmpty) nv := by
    rcases h3.1 with ⟨e1, rfl⟩ | ⟨bn, hne, base, cap, rfl, k1, k2, c2, k3, k4, k5⟩
    · rw [e1]; exact .lst .nil (Nat.le_refl _) (fun e => by cases e) rfl (fun _ => rfl) (fun e => absurd rfl e)
    · rw [show d.names.isEmpty = false by cases hd : d.names with | nil => exact absurd hd hne | cons => rfl]
      refine .lst (names_VRL d.names) k1 (fun e => by cases e) rfl (fun e => by cases e) fun _ => ⟨bn, base, rfl, fun i v hv => hz bn _ v k2 ?_⟩
      rw [World.cell?, k3]
      exact k5 i v hv
  have fin : ∀ rs : List (Ob × Bool), rs.map (·.1) = d.rows → VR (Env.cells z G0.H) (.lst (objsA rs) rs.length false rs.isEmpty) ov → ∃ cs vs z, View d cs ∧ VRL (Env.cells z G0.H) cs vs ∧ (∀ i v, vs[i]? = some v → z b i = some v) ∧ ∀ c o v, z c o = some v → w.cell? ⟨c, o, none⟩ = some v ∧ own c := fun rs hr hv =>
    ⟨stoA L U rs (.lst (d.names.map strA) d.names.length false d.names.isEmpty), [.int .i64 L, .int .i64 U, ov, nv, mv], z, ⟨L, U, rs, h2, hr, rfl⟩,
      .cons (.int _ _) (.cons (.int _ _) (.cons hv (.cons hnm (.cons (.undef _) .nil)))),
      fun i v hv => hz b i v h4 (by rw [World.cell?, g1]; have := g3 i v hv; rwa [Nat.zero_add] at this), fun c o v e => by
        have e : (if own c then w.cell? ⟨c, o, none⟩ else none) = some v := e
        by_cases hc : own c
        · rw [if_pos hc] at e; exact ⟨e, hc⟩
        · rw [if_neg hc] at e; cases e⟩
  rcases h6 with ⟨h7, h8⟩ | ⟨bo, ovs, sb, h7, ⟨base, cap, rfl, k1, k2, c2, k3, k4, k5⟩, h9, ho⟩
  · subst h8
    exact fin [] (by rw [h7]; rfl) (.lst .nil (Nat.le_refl _) (fun e => by cases e) rfl (fun _ => rfl) (fun e => absurd rfl e))
  · obtain ⟨rs, m1, m2⟩ := objs_VRL (E := Env.cells z G0.H) d.rows ovs ho.len ho.kind fun i o hi => by
      obtain ⟨sv, q1, q2⟩ := ho.slots i o hi
      exact ⟨sv, q1, slots_VR hz q2⟩
    have hne : rs ≠ [] := fun e => by subst e; exact h7 m1.symm
    have hlen : rs.length = d.rows.length := by rw [← m1, List.length_map]
    refine fin rs m1 ?_
    rw [hlen, show rs.isEmpty = false by cases rs with | nil => exact absurd rfl hne | cons => rfl]
    refine .lst m2 k1 (fun e => by cases e) rfl (fun e => by cases e) fun _ => ⟨bo, base, rfl, fun i v hv => hz bo _ v k2 ?_⟩
    rw [World.cell?, k3]
    exact k5 i v hv
/-! ## What the trees say -/
theorem objsA_0 : ∀ (rs : List (Ob × Bool)) (i : Nat), (objsA rs)[i * 10]? = (rs[i]?).map fun p => .int .i64 p.1.1
  | [], i => by simp [objsA]
  | p :: rs, 0 => by simp [objsA]
  | p :: rs, i + 1 => by
    rw [show (i + 1) * 10 = i * 10 + 10 by omega]
    simp only [objsA, List.getElem?_cons_succ]
    exact objsA_0 rs i
theorem objsA_1 : ∀ (rs : List (Ob × Bool)) (i : Nat), (objsA rs)[i * 10 + 1]? = (rs[i]?).map fun p => .lst (cellsA p.1.2) p.1.2.length false p.2
  | [], i => by simp [objsA]
  | p :: rs, 0 => by simp [objsA]
  | p :: rs, i + 1 => by
    rw [show (i + 1) * 10 + 1 = i * 10 + 1 + 10 by omega]
    simp only [objsA, List.getElem?_cons_succ]
    exact objsA_1 rs i
theorem nonNil_objs {rs : List (Ob × Bool)} {i : Nat} (h : i < rs.length) : nonNil (objsA rs) = true := by
  cases rs with
  | nil => simp at h
  | cons => rfl
theorem cells_cut : ∀ (l : List V2) (j : Nat) (p : V2), l[j]? = some p → cutN 2 (j * 2) (cellsA l) = some [.int .i64 p.1, .int .i64 p.2] ∧ nonNil (cellsA l) = true
  | [], _, _, h => by simp at h
  | q :: l, 0, p, h => by simp at h; subst h; exact ⟨rfl, rfl⟩
  | q :: l, j + 1, p, h => by
    obtain ⟨h1, _⟩ := cells_cut l j p (by simpa using h)
    refine ⟨?_, rfl⟩
    rw [show (j + 1) * 2 = j * 2 + 1 + 1 by omega]
    simp only [cutN, cellsA, List.drop_succ_cons]
    exact h1
theorem leI_iff : ∀ {a b : Int}, leI a b = decide (a ≤ b)
  | .ofNat a, .ofNat b => by
    rw [Bool.eq_iff_iff, decide_eq_true_iff]
    simp only [leI, Nat.ble_eq]
    exact Int.ofNat_le.symm
  | .negSucc _, .ofNat _ => by simp [leI]; omega
  | .ofNat _, .negSucc _ => by simp [leI]; omega
  | .negSucc a, .negSucc b => by
    rw [Bool.eq_iff_iff, decide_eq_true_iff]
    simp only [leI, Nat.ble_eq]
    omega
theorem leI_t {a b : Int} (h : a ≤ b) : leI a b = true := by rw [leI_iff]; simpa using h
theorem leI_f {a b : Int} (h : b < a) : leI a b = false := by rw [leI_iff]; simp; omega
theorem wrap32 {N : Int} (h0 : 0 ≤ N) (h1 : N ≤ 1114111) : IntKind.i32.wrap N = N := by
  have e : IntKind.i32.wrap N = if N % 4294967296 ≥ 2147483648 then N % 4294967296 - 4294967296 else N % 4294967296 := by
    unfold IntKind.wrap
    simp [IntKind.signed, IntKind.bits]
  rw [e]
  omega
theorem vr_eq {N : Int} (h0 : 0 ≤ N) (h1 : N ≤ 1114111) : vr (IntKind.i32.wrap N) = some (.bool (byB (leI 55296 N) (byB (leI N 57343) false true) true)) := by
  rw [wrap32 h0 h1]
  unfold vr vr3
  rw [leI_t h0, leI_t h1]
  by_cases h2 : 55296 ≤ N
  · rw [leI_t h2]
    by_cases h3 : N ≤ 57343
    · rw [leI_t h3]; rfl
    · rw [leI_f (show 57343 < N by omega)]; rfl
  · rw [leI_f (show N < 55296 by omega)]; rfl
theorem leN {n i : Nat} : leI (.ofNat n) (.ofNat i) = Nat.ble n i := rfl
theorem blt_of {n i : Nat} (h : Nat.ble n i = false) : Nat.blt i n = true ∧ i < n := by
  have : ¬ n ≤ i := fun hle => by rw [Nat.ble_eq_true_of_le hle] at h; cases h
  exact ⟨Nat.ble_eq_true_of_le (by omega), by omega⟩
section
variable (L U t : Int) (rs : List (Ob × Bool)) (fl gt : Bool) (u nm : AV)
theorem obj_far (i : Nat) (h : Nat.ble rs.length i = true) : (rs.map (·.1))[i]? = none := List.getElem?_eq_none (by rw [List.length_map]; exact Nat.le_of_ble_eq_true h)
theorem objAt_pos (rows : List Ob) (i : Nat) (h : eqI t 7 = true) : objAt rows t (.ofNat i) = rows[i]? := by unfold objAt; rw [h]
theorem objAt_neg (rows : List Ob) (i : Nat) : objAt rows t (.negSucc i) = none := by unfold objAt; cases eqI t 7 <;> rfl
theorem objAt_no (rows : List Ob) (N : Int) (h : eqI t 7 = false) : objAt rows t N = none := by unfold objAt; rw [h]
theorem kind_eq (N : Int) : look Tryz.prog H0 83 L U (objsA rs) rs.length fl [val t N] u nm gt = some (.int .i64 (kindOf (rs.map (·.1)) t N)) := by
  cases N with
  | negSucc i => rw [k83n, kindOf, objAt_neg]; cases eqI t 7 <;> rfl
  | ofNat i =>
    rw [k83p, kindOf]
    cases ht : eqI t 7 with
    | false => rw [objAt_no t _ _ ht]; rfl
    | true =>
      rw [objAt_pos t _ _ ht, leN]
      cases hb : Nat.ble rs.length i with
      | true => rw [obj_far rs i hb]; rfl
      | false =>
        obtain ⟨h1, h2⟩ := blt_of hb
        rw [h1, nonNil_objs h2, objsA_0, List.getElem?_map, List.getElem?_eq_getElem h2]
        rfl
theorem len_eq (N : Int) : look Tryz.prog H0 92 L U (objsA rs) rs.length fl [val t N] u nm gt = some (.int .i64 (lenOf (rs.map (·.1)) t N)) := by
  cases N with
  | negSucc i => rw [k92n, lenOf, objAt_neg]; cases eqI t 7 <;> rfl
  | ofNat i =>
    rw [k92p, lenOf]
    cases ht : eqI t 7 with
    | false => rw [objAt_no t _ _ ht]; rfl
    | true =>
      rw [objAt_pos t _ _ ht, leN]
      cases hb : Nat.ble rs.length i with
      | true => rw [obj_far rs i hb]; rfl
      | false =>
        obtain ⟨h1, h2⟩ := blt_of hb
        rw [h1, nonNil_objs h2, objsA_1, List.getElem?_map, List.getElem?_eq_getElem h2]
        rfl
def getV (g : V2 × Int) : AV := .tup [.agg [.int .i64 g.1.1, .int .i64 g.1.2], .int .i64 g.2]
theorem get_eq (N J : Int) : look Tryz.prog H0 79 L U (objsA rs) rs.length fl [val t N, .int .i64 J] u nm gt = some (getV (getOf (rs.map (·.1)) t N J)) := by
  cases N with
  | negSucc i => rw [k79n, getOf, objAt_neg]; cases eqI t 7 <;> rfl
  | ofNat i =>
    unfold getOf
    cases ht : eqI t 7 with
    | false =>
      rw [objAt_no t _ _ ht]
      cases J with
      | ofNat j => rw [k79p, ht]; rfl
      | negSucc j => rw [k79q, ht]; rfl
    | true =>
      rw [objAt_pos t _ _ ht]
      cases hb : Nat.ble rs.length i with
      | true =>
        rw [obj_far rs i hb]
        cases J with
        | ofNat j => rw [k79p, ht, leN, hb]; rfl
        | negSucc j => rw [k79q, ht, leN, hb]; rfl
      | false =>
        obtain ⟨h1, h2⟩ := blt_of hb
        rw [List.getElem?_map, List.getElem?_eq_getElem h2]
        cases J with
        | negSucc j => rw [k79q, ht, leN, hb, h1, nonNil_objs h2]; rfl
        | ofNat j =>
          rw [k79p, ht, leN, hb, h1, nonNil_objs h2, objsA_1, List.getElem?_eq_getElem h2]
          show byB (leI (.ofNat (rs[i]).1.2.length) (.ofNat j)) (err 12) (ifK (Nat.blt j (rs[i]).1.2.length && nonNil (cellsA (rs[i]).1.2)) (opt2 _ (cutN 2 (j * 2) (cellsA (rs[i]).1.2)))) = some (getV (match (rs[i]).1.2[j]? with | some p => (p, 0) | none => ((0, 0), 12)))
          rw [leN]
          cases hc : Nat.ble (rs[i]).1.2.length j with
          | true => rw [List.getElem?_eq_none (Nat.le_of_ble_eq_true hc)]; rfl
          | false =>
            obtain ⟨h3, h4⟩ := blt_of hc
            obtain ⟨h5, h6⟩ := cells_cut (rs[i]).1.2 j _ (List.getElem?_eq_getElem h4)
            rw [h3, h5, h6, List.getElem?_eq_getElem h4]
            rfl
theorem snd_tree (n : Nat) (cs : List AV) (hn : n = 0 ∨ nonNil cs = true) (h6 : eqI t 6 = false) (i : Nat) (c6 : Option AV) : sndT t (some (.bool (eqI (.ofNat i) 0))) (byB (leI (.ofNat i) 1114111) (vr (IntKind.i32.wrap (.ofNat i))) no) (some (.bool (!leI 256 (.ofNat i))))
    c6 (byB (!eqI t 7) no (byB (leI (.ofNat n) (.ofNat i)) no (ifK (Nat.blt i n && nonNil cs) yes))) = some (.bool (sndB n t (.ofNat i))) := by
  have h5 : byB (leI (.ofNat i) 1114111) (vr (IntKind.i32.wrap (.ofNat i))) no = some (.bool (scal (.ofNat i))) := by
    unfold scal
    cases h : leI (.ofNat i) 1114111 with
    | false => rfl
    | true =>
      rw [leI_iff] at h
      exact vr_eq (Int.natCast_nonneg i) (of_decide_eq_true h)
  have h8 : (!leI 256 (.ofNat i)) = leI (.ofNat i) 255 := by
    rw [leI_iff, leI_iff]
    by_cases h : (Int.ofNat i) ≤ 255
    · rw [decide_eq_true h, decide_eq_false (by omega)]; rfl
    · rw [decide_eq_false h, decide_eq_true (by omega)]; rfl
  have h7 : byB (!eqI t 7) no (byB (leI (.ofNat n) (.ofNat i)) no (ifK (Nat.blt i n && nonNil cs) yes)) = byB (eqI t 7) (some (.bool (!leI (.ofNat n) (.ofNat i)))) no := by
    cases eqI t 7 with
    | false => rfl
    | true =>
      rw [leN]
      cases hb : Nat.ble n i with
      | true => rfl
      | false =>
        obtain ⟨h1, h2⟩ := blt_of hb
        rcases hn with rfl | hn
        · omega
        · rw [h1, hn]; rfl
  rw [h5, h8, h7]
  unfold sndT sndB
  have h0 : leI 0 (.ofNat i) = true := leI_t (Int.natCast_nonneg i)
  rw [h0, h6]
  cases eqI t 0 <;> cases eqI t 1 <;> cases eqI t 2 <;> cases eqI t 3 <;> cases eqI t 9 <;> cases eqI t 4 <;> cases eqI t 5 <;> cases eqI t 8 <;> cases eqI t 7 <;> rfl
theorem six_of {t : Int} (h : eqI t 6 = true) : t = 6 := by
  cases t with
  | ofNat a => exact congrArg Int.ofNat (Nat.eq_of_beq_eq_true (show a.beq 6 = true from h))
  | negSucc a => cases h
theorem snd_neg (n : Nat) (i : Nat) (c6 : Option AV) (h6 : eqI t 6 = false) : sndT t no no no c6 (byB (!eqI t 7) no no) = some (.bool (sndB n t (.negSucc i))) := by
  unfold sndT sndB scal
  rw [h6]
  cases eqI t 0 <;> cases eqI t 1 <;> cases eqI t 2 <;> cases eqI t 3 <;> cases eqI t 9 <;> cases eqI t 4 <;> cases eqI t 5 <;> cases eqI t 8 <;> cases eqI t 7 <;> rfl
theorem snd_eq (ns : List AV) (k : Nat) (g6 f6 : Bool) (n : Nat) (cs : List AV) (hn : n = 0 ∨ nonNil cs = true) (N : Int) : look Tryz.prog H0 25 L U cs n fl [val t N] u (.lst ns k g6 f6) gt = some (.bool (sndM k n t N)) := by
  cases h6 : eqI t 6 with
  | true =>
    have := six_of h6
    subst this
    cases N with
    | negSucc i => rw [k25n]; rfl
    | ofNat i =>
      rw [k25p]
      show some (AV.bool (!leI (.ofNat k) (.ofNat i))) = some (.bool (byB (leI 0 (.ofNat i)) (!leI (.ofNat k) (.ofNat i)) false))
      rw [leI_t (b := Int.ofNat i) (Int.natCast_nonneg i)]
  | false =>
    have e : sndM k n t N = sndB n t N := by unfold sndM; rw [h6]
    rw [e]
    cases N with
    | negSucc i => rw [k25n]; exact snd_neg t n i _ h6
    | ofNat i => rw [k25p]; exact snd_tree t n cs hn h6 i _
theorem snd_eqU (nv : Value) (n : Nat) (cs : List AV) (hn : n = 0 ∨ nonNil cs = true) (h6 : eqI t 6 = false) (N : Int) : look Tryz.prog H0 25 L U cs n fl [val t N] u (.lit nv) gt = some (.bool (sndB n t N)) := by
  cases N with
  | negSucc i => rw [k25nu]; exact snd_neg t n i _ h6
  | ofNat i => rw [k25pu]; exact snd_tree t n cs hn h6 i _
end
end Go.Am.Sto
end
section
namespace Go.Am.Sto
open Go Go.Am Go.Proofs
theorem hm : Tryz.prog.follows .mixedOrders = true := by kernel_rfl
theorem hn_all : (Tryz.prog.funcs.toList.all fun fn => !(fn.name == "runtime.NumGoroutine")) = true := by kernel_rfl
theorem hn : NoNG Tryz.prog := fun f fn h e => by
  have := List.all_eq_true.1 hn_all fn (Array.mem_toList_iff.2 (Array.mem_of_getElem? h))
  rw [e] at this
  exact absurd this (by decide)
def F83 (d : Hid) : List AV → Option (Bool × AV × Hid)
  | [.hptr 0, .agg [.int .i64 t, .int .i64 N]] => some (true, .int .i64 (kindOf d.rows t N), d)
  | _ => none
def F92 (d : Hid) : List AV → Option (Bool × AV × Hid)
  | [.hptr 0, .agg [.int .i64 t, .int .i64 N]] => some (true, .int .i64 (lenOf d.rows t N), d)
  | _ => none
def F79 (d : Hid) : List AV → Option (Bool × AV × Hid)
  | [.hptr 0, .agg [.int .i64 t, .int .i64 N], .int .i64 J] => some (true, getV (getOf d.rows t N J), d)
  | _ => none
def F25 (d : Hid) : List AV → Option (Bool × AV × Hid)
  | [.hptr 0, .agg [.int .i64 t, .int .i64 N]] => some (true, .bool (sndM d.names.length d.rows.length t N), d)
  | _ => none
def usedOf (d : Hid) : Int := match d.nums with | [_, U] => U | _ => 0
def F142 (d : Hid) : List AV → Option (Bool × AV × Hid)
  | [.hptr 0] => some (true, .int .i64 (usedOf d), d)
  | _ => none
def F25v : List AV → Option (Bool × AV)
  | [.ptrL [.int .i64 _, .int .i64 _, .lst cs n _ _, .lit _, .lit _] 0, .agg [.int .i64 t, .int .i64 N]] => match n, cs with
    | 0, _ => some (!eqI t 6, .bool (sndB 0 t N))
    | n + 1, _ :: _ => some (!eqI t 6, .bool (sndB (n + 1) t N))
    | _, _ => none
  | _ => none
section
theorem k83 : MethOk Tryz.prog G0 83 F83 := see_known (D := noLive) (m := 0) (loops := 0) (n := 5) hm hn G0_plain (KnownOk.none _ _) (KnownKOk.none _) H0_view fun d cs ar x d' hv hF => by
  obtain ⟨L, U, rs, h1, h2, rfl⟩ := hv
  unfold F83 at hF
  split at hF
  · cases hF; exact ⟨_, rfl, rfl, rfl, rfl, by rw [← h2]; exact kind_eq L U _ rs _ _ _ _ _⟩
  · cases hF
theorem k92 : MethOk Tryz.prog G0 92 F92 := see_known (D := noLive) (m := 0) (loops := 0) (n := 5) hm hn G0_plain (KnownOk.none _ _) (KnownKOk.none _) H0_view fun d cs ar x d' hv hF => by
  obtain ⟨L, U, rs, h1, h2, rfl⟩ := hv
  unfold F92 at hF
  split at hF
  · cases hF; exact ⟨_, rfl, rfl, rfl, rfl, by rw [← h2]; exact len_eq L U _ rs _ _ _ _ _⟩
  · cases hF
theorem k79 : MethOk Tryz.prog G0 79 F79 := see_known (D := noLive) (m := 0) (loops := 0) (n := 5) hm hn G0_plain (KnownOk.none _ _) (KnownKOk.none _) H0_view fun d cs ar x d' hv hF => by
  obtain ⟨L, U, rs, h1, h2, rfl⟩ := hv
  unfold F79 at hF
  split at hF
  · cases hF; exact ⟨_, rfl, rfl, rfl, rfl, by rw [← h2]; exact get_eq L U _ rs _ _ _ _ _ _⟩
  · cases hF
theorem nonNil_len (rs : List (Ob × Bool)) : rs.length = 0 ∨ nonNil (objsA rs) = true := by
  cases rs with
  | nil => exact .inl rfl
  | cons => exact .inr rfl
theorem k25 : MethOk Tryz.prog G0 25 F25 := see_known (D := noLive) (m := 0) (loops := 0) (n := 5) hm hn G0_plain (KnownOk.none _ _) (KnownKOk.none _) H0_view fun d cs ar x d' hv hF => by
  obtain ⟨L, U, rs, h1, h2, rfl⟩ := hv
  unfold F25 at hF
  split at hF
  · cases hF; exact ⟨_, rfl, rfl, rfl, rfl, by rw [← h2, List.length_map]; exact snd_eq L U _ _ _ _ _ _ _ _ _ _ (nonNil_len rs) _⟩
  · cases hF
theorem k142' : MethOk Tryz.prog G0 142 F142 := see_known (D := noLive) (m := 0) (loops := 0) (n := 5) hm hn G0_plain (KnownOk.none _ _) (KnownKOk.none _) H0_view fun d cs ar x d' hv hF => by
  obtain ⟨L, U, rs, h1, h2, rfl⟩ := hv
  unfold F142 at hF
  split at hF
  · cases hF; exact ⟨_, rfl, rfl, rfl, rfl, by rw [usedOf, h1]; exact k142 H0 L U _ _ _ _ _ _⟩
  · cases hF
theorem k25v : ViewOk Tryz.prog G0 25 F25v := view_known (D := noLive) (m := 0) (loops := 0) (n := 5) hm hn G0_plain (KnownOk.none _ _) (KnownKOk.none _) fun ar x hF => by
  unfold F25v at hF
  split at hF
  · split at hF
    · simp only [Option.some.injEq, Prod.mk.injEq, Bool.not_eq_true'] at hF
      obtain ⟨h6, rfl⟩ := hF
      exact ⟨rfl, snd_eqU _ _ _ _ _ _ _ _ _ (.inl rfl) h6 _⟩
    · simp only [Option.some.injEq, Prod.mk.injEq, Bool.not_eq_true'] at hF
      obtain ⟨h6, rfl⟩ := hF
      exact ⟨rfl, snd_eqU _ _ _ _ _ _ _ _ _ (.inr rfl) h6 _⟩
    · cases hF
  · cases hF
end
end Go.Am.Sto
end
section
namespace Go.Am.Sto
open Go Go.Am Go.Proofs
def XS : Known := Known.none.add 25 (viewX F25v)
def YS {β : Type} : KnownK β := KnownK.none.add 25 (viewK F25v)
theorem kXS : KnownOk Tryz.prog G0 XS := (KnownOk.none _ _).add k25v
theorem kYS {β : Type} : KnownKOk XS (YS : KnownK β) := (KnownKOk.none _).add (viewK_le F25v) rfl
abbrev RowI := Option (List AV × TypeId × Bool)
def rowI (s : St) (r : Nat) : RowI := match s.get r with | some (.row o) => some (o.vals, o.ty, valid s o) | _ => none
def mkR (j r q : Nat) : Res → Option (AV × RowI × RowI × RowI × RowI)
  | .ret x s => some (x, rowI s 0, rowI s j, rowI s r, rowI s q)
  | _ => none
def objsP : List (Ob × Value) → List AV
  | [] => []
  | p :: r => .int .i64 p.1.1 :: .lit p.2 :: .undef :: .undef :: .undef :: .undef :: .undef :: .undef :: .undef :: .undef :: objsP r
def rest8 : List AV := [.int .i64 0, .str [], .bool false, mt, mt, .int .i64 0, mt, mt]
def runMk (P : Program) (j r q : Nat) (k : Int) (l : List (TypeId × List AV)) (slots : AV) : Option (AV × RowI × RowI × RowI × RowI) :=
  bodyY P G0 XS YS 5 8 noLive (mkR j r q) 5 P.funcs[38]? [.ptr 0 0, .int .i64 k, slots] (St.rows l)
abbrev sto0 (nv mv : Value) (L U : Int) : List AV := [.int .i64 L, .int .i64 U, mt, .lit nv, .lit mv]
abbrev sto1 (nv mv : Value) (L U : Int) (r n : Nat) : List AV := [.int .i64 L, .int .i64 U, .sl r 0 n 10 false, .lit nv, .lit mv]
def pay (U : Int) (m : Nat) : Int := IntKind.i64.wrap (U + IntKind.i64.wrap (1 + (.ofNat m)))
def full (L U : Int) (m : Nat) : Bool := !leI (IntKind.i64.wrap (1 + (.ofNat m))) (IntKind.i64.wrap (L - U))
def errV (e : Int) : AV := .tup [.agg [.int .i64 0, .int .i64 0], .int .i64 e]
def objV (n : Int) : AV := .tup [.agg [.int .i64 7, .int .i64 n], .int .i64 0]
def fresh1 (x n : Nat) : Bool := (bif Nat.ble (1 + x) (1 + 0 + n * 10) then 0 else 0 + 1).beq (bif Nat.ble (1 + x) (1 + 0 + n * 10) then 0 else 0 + 1)
section
variable (nv mv : Value) (L U a b c e : Int) (tt : Bool)
def two (P : Program) (j r q : Nat) (k : Int) (l : List (TypeId × List AV)) : Option (AV × RowI × RowI × RowI × RowI) := runMk P j r q k l (.lst [.int .i64 a, .int .i64 b, .int .i64 c, .int .i64 e] 2 tt false)
def chk2 (U : Int) : Bool := eqI U U && true
def chk1 (L U : Int) : Bool := eqI L L && chk2 U
theorem mk0 : two a b c e tt Tryz.prog 0 10 6 1 [(66, sto0 nv mv L U)] =
    ifK (!eqI a 6) (byB (sndB 0 a b) (ifK (!eqI c 6) (byB (sndB 0 c e) (ifK (chk1 L U) (byB (full L U 2) (some (errV 16, some (sto0 nv mv L U, 66, true), some (sto0 nv mv L U, 66, true), none, some ([.int .i64 a, .int .i64 b, .int .i64 c, .int .i64 e], 29, true)))
      (ifK (chk2 U) (some (objV 0, some (sto1 nv mv L (pay U 2) 10 1, 66, true), some (sto1 nv mv L (pay U 2) 10 1, 66, true), some (.int .i64 1 :: .sl 6 0 2 2 false :: rest8, 115, true), some ([.int .i64 a, .int .i64 b, .int .i64 c, .int .i64 e], 29, true))))))
      (some (errV 2, some (sto0 nv mv L U, 66, true), some (sto0 nv mv L U, 66, true), none, none)))) (some (errV 2, some (sto0 nv mv L U, 66, true), some (sto0 nv mv L U, 66, true), none, none))) := by kernel_rfl
theorem mk1 (o : Ob × Value) (rs : List (Ob × Value)) : two a b c e tt Tryz.prog 1 11 7 1 [(66, sto1 nv mv L U 1 (rs.length + 1)), (115, objsP (o :: rs))] =
    ifK (!eqI a 6) (byB (sndB (rs.length + 1) a b) (ifK (!eqI c 6) (byB (sndB (rs.length + 1) c e) (ifK (chk1 L U) (byB (full L U 2) (some (errV 16, some (sto1 nv mv L U 1 (rs.length + 1), 66, true), some (objsP (o :: rs), 115, true), none, some ([.int .i64 a, .int .i64 b, .int .i64 c, .int .i64 e], 29, true)))
      (ifK (chk2 U) (ifK (Nat.ble (rs.length + 1 + 1) 1073741824) (optK (fun old => some (objV (IntKind.i64.wrap ((.ofNat (rs.length + 1 + 1)) - 1)), some (sto1 nv mv L (pay U 2) 11 (rs.length + 1 + 1), 66, true),
        some (objsP (o :: rs), 115, Nat.beq 0 (bif Nat.ble (1 + (objsP (o :: rs)).length) (1 + 0 + (rs.length + 1) * 10) then 0 else 0 + 1)), some (old ++ (.int .i64 1 :: .sl 7 0 2 2 false :: rest8), 115, fresh1 (objsP (o :: rs)).length (rs.length + 1)), some ([.int .i64 a, .int .i64 b, .int .i64 c, .int .i64 e], 29, true))) (cutN ((rs.length + 1) * 10) 0 (objsP (o :: rs))))))))
      (some (errV 2, some (sto1 nv mv L U 1 (rs.length + 1), 66, true), some (objsP (o :: rs), 115, true), none, none)))) (some (errV 2, some (sto1 nv mv L U 1 (rs.length + 1), 66, true), some (objsP (o :: rs), 115, true), none, none))) := by kernel_rfl
end
end Go.Am.Sto
end
