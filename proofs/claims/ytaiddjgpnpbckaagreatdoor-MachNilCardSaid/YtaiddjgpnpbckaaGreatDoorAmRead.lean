/- Functions that look at what lies there, and change nothing. -/
import Derived.Test.YtaiddjgpnpbckaaGreatDoorAmBase
set_option autoImplicit false
namespace Go.Am

/-- what is not known of a cell is left open -/
def blur (a : AV) : AV := bif a.plain then a else .undef
def blurL : List AV → List AV
  | [] => []
  | a :: l => blur a :: blurL l

/-- an argument, for one who only looks -/
def convR (s : St) : AV → Option AV
  | .ptr r off => match rowAt s r with
    | some o => some (.ptrL (blurL o.vals) off)
    | none => none
  | a => convA s a
def convRL (s : St) : List AV → Option (List AV)
  | [] => some []
  | a :: l => match convR s a with
    | some x => match convRL s l with | some q => some (x :: q) | none => none
    | none => none

theorem convR_other {s : St} {a : AV} (h : ∀ r off, a ≠ .ptr r off) : convR s a = convA s a := by
  unfold convR
  split
  · exact absurd rfl (h _ _)
  · rfl

/-- Nothing is numbered; all that lies stays. -/
noncomputable def Env.look (E : Env) (w : World) : Env := { Env.none with z := E.stay w, bsz := E.bsz, H := E.H }

section
variable {E : Env} {s : St} {w : World}

theorem Rel.look (h : Rel E s w) : Rel (E.look w) St.empty w where
  wf := .empty
  lt r b base e := by cases e
  obj r p e := by cases e
  z b o v e := stay_cell h e
  zap b o v r base _ e := by cases e
  row r o b base _ e := by cases e
  mapo r es b base _ e := by cases e
  iter r x n b base _ e := by cases e
  coh r1 r2 b b1 b2 e := by cases e
  b0 r o b base _ e := by cases e
  hid n d b _ e := by cases e
  own n c e := e.elim
  hlt n b e := by cases e

theorem Step.looked {E1 : Env} {s1 : St} {w' : World} (h0 : Rel E s w) (h : Step (E.look w) St.empty w E1 s1 w') : Step E s w E s w' := by
  have hfr : ∀ b, b < w.heap.size → w'.heap[b]? = w.heap[b]? := fun b hb => h.fr b hb (fun r base e => by cases e) (fun n e => e)
  refine ⟨.refl E, fun _ _ => rfl, fun r b base e => .inr ⟨r, base, e⟩, ?_, fun _ _ _ _ _ => rfl, Nat.le_refl _, fun b hb _ _ => hfr b hb, h.os, h.tape, h.output, h.size, fun _ _ e => .inl e, fun _ d e => ⟨d, e⟩⟩
  refine ⟨h0.wf, fun r b base e => ⟨(h0.lt r b base e).1, Nat.lt_of_lt_of_le (h0.lt r b base e).2 h.size⟩, h0.obj, fun b o v e => h.rel.z b o v (h.le.z b o v (stay_z h0 e)), h0.zap, ?_, ?_, h0.iter, h0.coh, h0.b0,
    fun n d b e eb w1 hw => h0.hid n d b e eb w1 fun k hk => (hw k hk).trans (hfr k (h0.own n k hk).1), fun n k hk => ⟨Nat.lt_of_lt_of_le (h0.own n k hk).1 h.size, (h0.own n k hk).2⟩, h0.hlt⟩
  · intro r o b base e el
    rw [hfr b (h0.lt r b base el).2]
    exact h0.row r o b base e el
  · intro r es b base e el
    rw [hfr b (h0.lt r b base el).2]
    exact h0.mapo r es b base e el

theorem blurL_ok {E0 : Env} (hz : ∀ b o v, E.z b o = some v → E0.z b o = some v) : ∀ {l : List AV} {r : List Value}, VRL E l r → VRL E0 (blurL l) r
  | [], _, .nil => .nil
  | a :: _, _, .cons h t => by
    refine .cons ?_ (blurL_ok hz t)
    unfold blur
    rcases Bool.eq_false_or_eq_true a.plain with hp | hp
    · rw [cond_of_true hp]; exact VR.plain hz h hp
    · rw [cond_of_false hp]; exact .undef _

theorem convR_ok (h : Rel E s w) {E0 : Env} (hz : ∀ b o v, E.stay w b o = some v → E0.z b o = some v) {a x : AV} (hx : convR s a = some x) {v : Value} (hv : VR E a v) : VR E0 x v := by
  cases hv with
  | ptr off hloc =>
    rename_i r b base
    simp only [convR] at hx
    split at hx
    · rename_i o ho
      cases hx
      obtain ⟨ho1, ho2⟩ := rowAt_eq ho
      obtain ⟨c, ty, fz, g1, g2, g3, g4⟩ := h.row r o b base ho1 hloc
      obtain ⟨_, vs, k1, k2⟩ := g4 ho2
      refine .ptrL off (blurL_ok (fun b o u e => hz b o u (stay_z h e)) k1) fun i u hu => hz _ _ _ ?_
      rw [stay_at hloc, World.cell?, g1]
      exact k2 i u hu
    · cases hx
  | int k n => exact convA_ok h hz ((convR_other (by intro _ _ e; cases e)).symm.trans hx) (.int k n)
  | bool b => exact convA_ok h hz ((convR_other (by intro _ _ e; cases e)).symm.trans hx) (.bool b)
  | str s => exact convA_ok h hz ((convR_other (by intro _ _ e; cases e)).symm.trans hx) (.str s)
  | nilp => exact convA_ok h hz ((convR_other (by intro _ _ e; cases e)).symm.trans hx) .nilp
  | ptrL off h1 h2 => exact convA_ok h hz ((convR_other (by intro _ _ e; cases e)).symm.trans hx) (.ptrL off h1 h2)
  | sl h1 h2 h3 h4 => exact convA_ok h hz ((convR_other (by intro _ _ e; cases e)).symm.trans hx) (.sl h1 h2 h3 h4)
  | lst h1 h2 h3 h4 h5 h6 => exact convA_ok h hz ((convR_other (by intro _ _ e; cases e)).symm.trans hx) (.lst h1 h2 h3 h4 h5 h6)
  | mpn => exact convA_ok h hz ((convR_other (by intro _ _ e; cases e)).symm.trans hx) .mpn
  | mp h1 => exact convA_ok h hz ((convR_other (by intro _ _ e; cases e)).symm.trans hx) (.mp h1)
  | hp h1 => exact convA_ok h hz ((convR_other (by intro _ _ e; cases e)).symm.trans hx) (.hp h1)
  | fn h1 h2 => exact convA_ok h hz ((convR_other (by intro _ _ e; cases e)).symm.trans hx) (.fn h1 h2)
  | nilfn => exact convA_ok h hz ((convR_other (by intro _ _ e; cases e)).symm.trans hx) .nilfn
  | ifc h1 => exact convA_ok h hz ((convR_other (by intro _ _ e; cases e)).symm.trans hx) (.ifc h1)
  | nilifc => exact convA_ok h hz ((convR_other (by intro _ _ e; cases e)).symm.trans hx) .nilifc
  | agg h1 => exact convA_ok h hz ((convR_other (by intro _ _ e; cases e)).symm.trans hx) (.agg h1)
  | tup h1 => exact convA_ok h hz ((convR_other (by intro _ _ e; cases e)).symm.trans hx) (.tup h1)
  | undef v => exact convA_ok h hz ((convR_other (by intro _ _ e; cases e)).symm.trans hx) (.undef v)

theorem convRL_ok (h : Rel E s w) {E0 : Env} (hz : ∀ b o v, E.stay w b o = some v → E0.z b o = some v) : ∀ {l q : List AV}, convRL s l = some q → ∀ {vs : List Value}, VRL E l vs → VRL E0 q vs
  | [], q, hq, vs, hv => by cases hq; cases hv; exact .nil
  | a :: l, q, hq, vs, hv => by
    cases hv with
    | cons h1 h2 =>
      simp only [convRL] at hq
      split at hq
      · rename_i x hx
        split at hq
        · rename_i q' hq'
          cases hq
          exact .cons (convR_ok h hz hx h1) (convRL_ok h hz hq' h2)
        · cases hq
      · cases hq
end

/-- A function of what it sees. -/
def readX (F : List AV → Option AV) : List AV → St → Res := fun args s =>
  match convRL s args with
  | some as => match F as with | some x => .ret x s | none => .fail
  | none => .fail

def ReadOk (P : Program) (G : Glob) (f : FuncId) (F : List AV → Option AV) : Prop :=
  ∀ (args : List AV) (s : St) (E : Env) (w : World) (vs : List Value), Rel E s w → GlobOk E G → VRL E args vs → ResOk P E s w f vs (readX F args s)

theorem read_known {P : Program} {G : Glob} (hm : P.follows .mixedOrders = true) (hn : NoNG P) (hp : GlobPlain G) {X : Known} (hX : KnownOk P G X) {D : Live} {m loops n : Nat} {f : FuncId} {F : List AV → Option AV}
    (hF : ∀ as x, F as = some x → x.flat = true ∧ bodyK P G X loops n D Res.val? m P.funcs[f]? as St.empty = some x) : ReadOk P G f F := by
  intro args s E w vs h hG ha
  unfold readX
  split
  · rename_i as has
    split
    · rename_i x hx
      obtain ⟨h2, h3⟩ := hF as x hx
      have h3 := bodyK_le h3
      have hz : ∀ b o v, E.stay w b o = some v → (E.look w).z b o = some v := fun _ _ _ e => e
      have this := bodyD_ok (D := D) hm hn (callN_ok hm hn hX loops n) m f as St.empty (E.look w) w vs h.look (GlobOk.one h hp hG hz rfl) (convRL_ok h hz has ha)
      cases hb : bodyD P G (callN P G X loops n) D m P.funcs[f]? as St.empty with
      | ret y s1 =>
        rw [hb] at h3 this
        simp only [Res.val?, Option.some.injEq] at h3
        subst h3
        rcases this with ⟨h4, h5⟩ | ⟨v', w', E', h4, h5, h6⟩
        · exact .inl ⟨h4, Calls.mono h5 fun e w' ⟨v', E', he, hs, hv⟩ => ⟨v', E, he, .looked h hs, hv.flat h2⟩⟩
        · exact .inr ⟨v', w', E, h4, .looked h h5, h6.flat h2⟩
      | _ => rw [hb] at h3; cases h3
    · trivial
  · trivial

/-! ## The beginning -/
def Env.start (H : Hid → Nat → (Nat → Prop) → World → Prop) : Env := { Env.none with H := H }

theorem Rel.start (H : Hid → Nat → (Nat → Prop) → World → Prop) (w : World) : Rel (Env.start H) St.empty w where
  wf := .empty
  lt r b base e := by cases e
  obj r p e := by cases e
  z b o v e := by cases e
  zap b o v r base e := by cases e
  row r o b base _ e := by cases e
  mapo r es b base _ e := by cases e
  iter r x n b base _ e := by cases e
  coh r1 r2 b b1 b2 e := by cases e
  b0 r o b base _ e := by cases e
  hid n d b _ e := by cases e
  own n c e := e.elim
  hlt n b e := by cases e

theorem Step.kept {H : Hid → Nat → (Nat → Prop) → World → Prop} {s' : St} {E' : Env} {w w' : World} (h : Step (Env.start H) St.empty w E' s' w') (may : MemPlace → Prop) : w.keptBut w' may := by
  refine ⟨h.os, h.output, fun i hi => ?_⟩
  have := (World.keptBut_refl w may).2.2 i hi
  rw [h.fr i hi (fun r base e => by cases e) (fun n e => e)]
  exact this
end Go.Am
