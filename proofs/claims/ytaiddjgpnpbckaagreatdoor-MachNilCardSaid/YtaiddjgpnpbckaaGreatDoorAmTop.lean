/- The operations, on both sides: all together. -/
import Derived.Test.YtaiddjgpnpbckaaGreatDoorAmOp10
import Derived.Lib.Builder
import Derived.Lib.UnsafeStr
set_option autoImplicit false
namespace Go.Am

section
variable {P : Program} {G : Glob} {E : Env} {s : St} {w : World} {t : T} {a : Act} {o : Oper}

theorem liesAt_head {e : TypeId} (hc : 0 < P.cellsOf e) (count : Nat) (hn : 1 ≤ count) : liesAt P P.depth e count 0 e 1 = true := by
  have hd : P.depth = (2 * (P.types.size + Made.depth) + 1) + 1 := rfl
  rw [hd]
  simp only [liesAt, Bool.or_eq_true]
  left
  rw [hd]
  simp [Go.rowAt, hn, sameLayout]
  try omega

theorem toUnsafeC_ok (h : Rel E s w) (hG : GlobOk E G) (ht : TR E t a) {src dst u : TypeId} {x : Operand} (ho : o.op = .convert src dst x) (hs : P.underlying src = some (.pointer u)) (hd : P.underlying dst = some .unsafePointer) :
    OpOk P E s w o a (toUnsafeC P u (evC G x) t s) := by
  have hx := evC_ok hG ht x
  generalize hv : a.eval x = v at hx
  unfold toUnsafeC
  cases hz : sizeT P u with
  | none => trivial
  | some n =>
    cases n with
    | zero => trivial
    | succ n =>
      simp only
      obtain ⟨iu, i1, i2⟩ := sizeT_info hz
      split
      · rename_i e
        rw [e] at hx
        cases hx
        exact .ofVal h (v := .pointer none) (by simp [execOp, ho, hv, convert, run_underlying hs, run_underlying hd, Conv.unsafePointer]) .nilp
      · rename_i r off e
        rw [e] at hx
        split
        · rename_i q hq
          obtain ⟨q1, q2⟩ := rowAt_eq hq
          rcases Bool.eq_false_or_eq_true (Nat.blt off q.vals.length) with hb | hb
          · rw [cond_of_true hb]
            have hlt : off < q.vals.length := Nat.le_of_ble_eq_true hb
            cases hx with
            | ptr off hl =>
              rename_i b base
              obtain ⟨c, ty, fz, g1, g2, g3, _⟩ := h.row r q b base q1 hl
              have hrun := Lib.run_to_unsafe w ⟨b, base + off, none⟩ hs hd i1 (by rw [i2]; exact Nat.succ_ne_zero n) (e := ty) (cells := c.size) (by simp [World.shape?, g1]) (by show base + off < c.size; omega)
              exact .ofVal h (v := .pointer (some ⟨b, base + off, none⟩)) (by simp only [execOp, ho, hv, Sem.run_bind, hrun, Result.andThen_ok]; rfl) (.ptr off hl)
          · rw [cond_of_false hb]; trivial
        · trivial
      · trivial

theorem fromUnsafeC_ok (h : Rel E s w) (hG : GlobOk E G) (ht : TR E t a) {src dst u : TypeId} {x : Operand} (ho : o.op = .convert src dst x) (hs : P.underlying src = some .unsafePointer) (hd : P.underlying dst = some (.pointer u)) :
    OpOk P E s w o a (fromUnsafeC P u (evC G x) t s) := by
  have hx := evC_ok hG ht x
  generalize hv : a.eval x = v at hx
  unfold fromUnsafeC
  cases hz : sizeT P u with
  | none => trivial
  | some n =>
    cases n with
    | zero => trivial
    | succ n =>
      simp only
      obtain ⟨iu, i1, i2⟩ := sizeT_info hz
      split
      · rename_i e
        rw [e] at hx
        cases hx
        exact .ofVal h (v := .pointer none) (by simp [execOp, ho, hv, convert, run_underlying hs, run_underlying hd, Conv.unsafePointer]) .nilp
      · rename_i r e
        rw [e] at hx
        split
        · rename_i q hq
          obtain ⟨q1, q2⟩ := rowAt_eq hq
          rcases Bool.eq_false_or_eq_true (q.root.beq r && (q.ty.beq u && Nat.ble (n + 1) q.vals.length)) with hb | hb
          · rw [cond_of_true hb]
            simp only [Bool.and_eq_true] at hb
            have hroot := Nat.eq_of_beq_eq_true hb.1
            have hty := Nat.eq_of_beq_eq_true hb.2.1
            have hle := Nat.le_of_ble_eq_true hb.2.2
            cases hx with
            | ptr off hl =>
              rename_i b base
              have hb0 := h.b0 r q b base q1 hl hroot
              subst hb0
              obtain ⟨c, ty, fz, g1, g2, g3, g4⟩ := h.row r q b 0 q1 hl
              obtain ⟨⟨_, g5⟩, _⟩ := g4 q2
              have hcells : P.cellsOf u = n + 1 := by simp [Program.cellsOf, i1, i2]
              have hrun := Lib.run_from_unsafe w ⟨b, 0 + 0, none⟩ hs hd i1 (e := ty) (cells := c.size) (by simp [World.shape?, g1]) (by
                show liesAt P P.depth ty (c.size / P.cellsOf ty) (0 + 0) u 1 = true
                rw [g5, hty]
                exact liesAt_head (by rw [hcells]; omega) _ (by rw [hcells]; exact (Nat.one_le_div_iff (by omega)).2 (by omega)))
              exact .ofVal h (v := .pointer (some ⟨b, 0 + 0, none⟩)) (by simp only [execOp, ho, hv, Sem.run_bind, hrun, Result.andThen_ok]; rfl) (.ptr 0 hl)
          · rw [cond_of_false hb]; trivial
        · trivial
      · trivial

theorem convC_ok (h : Rel E s w) (hG : GlobOk E G) (ht : TR E t a) {src dst : TypeId} {x : Operand} (ho : o.op = .convert src dst x) : OpOk P E s w o a (convC P G o src dst (evC G x) t s) := by
  suffices key : ∀ F, convC P G o src dst (evC G x) = F → OpOk P E s w o a (F t s) from key _ rfl
  intro F hF
  unfold convC at hF
  split at hF <;> subst hF
  · rename_i hs hd; exact toUnsafeC_ok h hG ht ho hs hd
  · rename_i hs hd; exact fromUnsafeC_ok h hG ht ho hs hd
  · exact convertC_ok h hG ht ho

theorem sliceDataC_ok (h : Rel E s w) (hG : GlobOk E G) (ht : TR E t a) {x : Operand} {ty : TypeId} (ho : o.op = .call { callee := .builtin .unsafeSliceData, args := #[x], argTypes := #[ty] }) :
    OpOk P E s w o a (sliceDataC (evC G x) t s) := by
  have hx := evC_ok hG ht x
  generalize hv : a.eval x = v at hx
  unfold sliceDataC
  split
  · rename_i e
    rw [e] at hx
    have := vr_nilS hx
    subst this
    exact .ofVal h (v := .pointer none) (by simp [execOp, ho, resolve, invoke, builtin, hv, Lib.run_unsafeSliceData_nil]) .nilp
  · rename_i r off n es tg e
    rw [e] at hx
    cases hx with
    | sl h1 h2 h3 h4 =>
      rename_i b base cap a'
      obtain ⟨e4, _⟩ := h4 (by omega)
      subst e4
      exact .ofVal h (v := .pointer (some ⟨b, base + off, none⟩)) (by simp [execOp, ho, resolve, invoke, builtin, hv, Lib.run_unsafeSliceData_row _ _ _ _ _ cap (show cap ≠ 0 by omega)]) (.ptr off h1)
  · rename_i c cs n tg nl e
    rw [e] at hx
    cases hx with
    | lst h1 h2 h3 h4 h5 h6 =>
      rename_i vs cap a'
      have hne : vs ≠ [] := fun e2 => by subst e2; cases h1
      obtain ⟨b, base, e6, h7⟩ := h6 hne
      subst e6
      exact .ofVal h (v := .pointer (some ⟨b, base + 0, none⟩)) (by simp [execOp, ho, resolve, invoke, builtin, hv, Lib.run_unsafeSliceData_row _ _ _ _ _ cap (show cap ≠ 0 by omega)]) (.ptrL 0 h1 h7)
  · trivial

theorem builtinC_ok (h : Rel E s w) (hG : GlobOk E G) (ht : TR E t a) {b : Builtin} {args : Array Operand} {ts : Array TypeId}
    (ho : o.op = .call { callee := .builtin b, args := args, argTypes := ts }) : OpOk P E s w o a (builtinC P G o b args.toList ts.toList t s) := by
  have hp : OpOk P E s w o a (plainC P G o t s) := plainC_ok h hG ht (by intro cs b; rw [ho]; simp)
  obtain ⟨args⟩ := args
  obtain ⟨ts⟩ := ts
  suffices key : ∀ F, builtinC P G o b args ts = F → OpOk P E s w o a (F t s) from key _ rfl
  intro F hF
  unfold builtinC at hF
  split at hF <;> subst hF
  · exact appendC_ok h hG ht ho
  · exact lenC_ok h hG ht ho
  · exact capC_ok h hG ht ho
  · exact copyC_ok h hG ht ho
  · exact sliceDataC_ok h hG ht ho
  · exact unsafeStringC_ok h hG ht ho
  all_goals first | trivial | exact hp

theorem opC_ok {callF : CF} (hc : CFok P G callF) (h : Rel E s w) (hG : GlobOk E G) (ht : TR E t a) : OpOk P E s w o a (opC P G callF o t s) := by
  suffices key : ∀ F, opC P G callF o = F → OpOk P E s w o a (F t s) from key _ rfl
  intro F hF
  unfold opC at hF
  split at hF <;> subst hF
  case h_1 x ho => exact .ofVal h (v := a.eval x) (by simp [execOp, ho]) (evC_ok hG ht x)
  case h_2 x ho => exact .ofVal h (v := a.eval x) (by simp [execOp, ho]) (evC_ok hG ht x)
  case h_3 ho => exact pickC_ok h hG ht ho
  case h_4 ho => exact allocC_ok h ho
  case h_5 ho => exact boxC_ok h hG ht ho
  case h_6 ho => exact buildC_ok h hG ht ho
  case h_7 ho => exact buildSliceC_ok h hG ht ho
  case h_8 ho => exact loadC_ok h hG ht ho
  case h_9 ho => exact storeC_ok h hG ht ho
  case h_10 ho => exact nilCheckC_ok h hG ht ho
  case h_11 ho => exact fieldAddrC_ok h hG ht ho
  case h_12 ho => exact fieldC_ok h hG ht ho
  case h_13 ho => exact indexAddrC_ok h hG ht ho
  case h_14 ho => exact indexC_ok h hG ht ho
  case h_15 ho => exact sliceC_ok h hG ht ho
  case h_16 ho => exact extractC_ok h hG ht ho
  case h_17 ho => exact makeFuncC_ok h hG ht ho
  case h_18 ho => exact makeInterfaceC_ok h hG ht ho
  case h_19 ho => exact makeSliceC_ok h hG ht ho
  case h_20 ho => exact makeMapC_ok h ho
  case h_21 ho => exact lookupC_ok h hG ht ho
  case h_22 ho => exact mapUpdateC_ok h hG ht ho
  case h_23 ho => exact typeAssertC_ok h hG ht ho
  case h_24 ho => exact panicC_ok h hG ht ho
  case h_25 ho => exact binC_ok h hG ht ho
  case h_26 ho => exact plainC_ok h hG ht (by intro cs b; rw [ho]; simp)
  case h_27 ho => exact convC_ok h hG ht ho
  case h_28 ho => exact callC_ok h hG ht hc ho
  case h_29 ho => exact builtinC_ok h hG ht ho
  case h_30 ho => exact deferC_ok hG ht ho
  case h_31 => trivial
end
end Go.Am
