/- The operations, on both sides: places and parts. -/
import Derived.Test.YtaiddjgpnpbckaaGreatDoorAmOp3
set_option autoImplicit false
namespace Go.Am

section
variable {P : Program} {G : Glob} {E : Env} {s : St} {w : World} {t : T} {a : Act} {o : Oper}

theorem natOf_ok {x : AV} {n : Nat} (h : natOf x = some n) {v : Value} (hv : VR E x v) : ∃ k, v = .int k n := by
  unfold natOf at h
  split at h
  · cases h; cases hv; exact ⟨_, rfl⟩
  · cases h

theorem nilCheckC_ok (h : Rel E s w) (hG : GlobOk E G) (ht : TR E t a) {x : Operand} (ho : o.op = .nilCheck x) : OpOk P E s w o a (nilCheckC (evC G x) t s) := by
  have hx := evC_ok hG ht x
  generalize hv : a.eval x = v at hx
  unfold nilCheckC
  split
  · rename_i e; rw [e] at hx; cases hx with
    | ptr off hl => exact .ofVal h (v := a.eval x) (by simp [execOp, ho, hv]) (by rw [hv]; exact .ptr _ hl)
  · rename_i e; rw [e] at hx; cases hx with
    | ptrL off h1 h2 => exact .ofVal h (v := a.eval x) (by simp [execOp, ho, hv]) (by rw [hv]; exact .ptrL _ h1 h2)
  · rename_i e; rw [e] at hx; cases hx with
    | hp h1 => exact .ofVal h (v := a.eval x) (by simp [execOp, ho, hv]) (by rw [hv]; exact .hp h1)
  · rename_i e; rw [e] at hx; cases hx with
    | fn h1 h2 => exact .ofVal h (v := a.eval x) (by simp [execOp, ho, hv]) (by rw [hv]; exact .fn h1 h2)
  · trivial

theorem ptrAdd_ok {x y : AV} {n : Nat} (h : ptrAdd x n = some y) {v : Value} (hv : VR E x v) : ∃ b off, v = .pointer (some ⟨b, off, none⟩) ∧ VR E y (.pointer (some ⟨b, off + n, none⟩)) := by
  unfold ptrAdd at h
  split at h
  · cases h; cases hv with
    | ptr off hl => exact ⟨_, _, rfl, by rw [Nat.add_assoc]; exact .ptr _ hl⟩
  · cases h; cases hv with
    | ptrL off h1 h2 => exact ⟨_, _, rfl, by rw [Nat.add_assoc]; exact .ptrL _ h1 h2⟩
  · cases h

theorem fieldAddrC_ok (h : Rel E s w) (hG : GlobOk E G) (ht : TR E t a) {ty : TypeId} {x : Operand} {f : Nat} (ho : o.op = .fieldAddr ty x f) : OpOk P E s w o a (fieldAddrC P ty f (evC G x) t s) := by
  have hx := evC_ok hG ht x
  unfold fieldAddrC
  cases hu : P.underlying ty with
  | none => trivial
  | some d =>
    cases d with
    | struct fields =>
      cases hf : fields[f]? with
      | none => simp only [hf]; trivial
      | some fd =>
        simp only [hf]
        cases hs : sizeT P fd.type with
        | none => trivial
        | some n =>
          cases n with
          | zero => trivial
          | succ n =>
            refine valO_ok h fun y hy => ?_
            obtain ⟨b, off, e1, e2⟩ := ptrAdd_ok hy hx
            refine ⟨_, ?_, e2⟩
            simp [execOp, ho, e1, Instr.fieldAt, run_underlying hu, hf, Instr.sureAddr, fieldPlace, sizeT_run hs, Addr.add_lit]
    | _ => trivial

theorem part_agg {ty : TypeId} {n off : Nat} {cs y : List AV} {vs : List Value} (h1 : isAggT P ty = some true) (h2 : sizeT P ty = some n) (hc : VRL E cs vs) (hy : cutN n off cs = some y) (w : World) :
    ∃ us, (part ty ⟨vs⟩ off).run P w = .ok (.agg ⟨us⟩) w ∧ VRL E y us := by
  obtain ⟨e1, e2⟩ := takeN_eq hy
  refine ⟨(vs.drop off).take n, ?_, by rw [e1]; exact (hc.drop off).take n⟩
  simp [part, isAgg_run h1, sizeT_run h2]

theorem part_one {ty : TypeId} {off : Nat} {cs : List AV} {y : AV} {vs : List Value} (h1 : isAggT P ty = some false) (hc : VRL E cs vs) (hy : cs[off]? = some y) (w : World) :
    ∃ u, (part ty ⟨vs⟩ off).run P w = .ok u w ∧ VR E y u := by
  obtain ⟨u, h2, h3⟩ := hc.at_ hy
  exact ⟨u, by simp [part, isAgg_run h1, h2], h3⟩

theorem fieldC_ok (h : Rel E s w) (hG : GlobOk E G) (ht : TR E t a) {ty : TypeId} {x : Operand} {f : Nat} (ho : o.op = .field ty x f) : OpOk P E s w o a (fieldC P ty f (evC G x) t s) := by
  have hx := evC_ok hG ht x
  generalize hv : a.eval x = v at hx
  unfold fieldC
  cases hu : P.underlying ty with
  | none => trivial
  | some d =>
    cases d with
    | struct fields =>
      cases hf : fields[f]? with
      | none => simp only [hf]; trivial
      | some fd =>
        simp only [hf]
        cases hs : shapeT P fd.type with
        | none => trivial
        | some sh =>
          cases sh with
          | some n =>
            simp only
            split
            · rename_i cs e
              rw [e] at hx
              cases hx with
              | agg hc =>
                refine aggO_ok h fun y hy => ?_
                obtain ⟨k1, k2⟩ := shapeT_agg hs
                obtain ⟨us, e1, e2⟩ := part_agg (P := P) k1 k2 hc hy w
                exact ⟨_, by simp [execOp, ho, hv, Instr.field, run_underlying hu, hf, asAgg, e1], .agg e2⟩
            · trivial
          | none =>
            simp only
            split
            · rename_i cs e
              rw [e] at hx
              cases hx with
              | agg hc =>
                refine valO_ok h fun y hy => ?_
                obtain ⟨u, e1, e2⟩ := part_one (P := P) (shapeT_one hs) hc hy w
                exact ⟨_, by simp [execOp, ho, hv, Instr.field, run_underlying hu, hf, asAgg, e1], e2⟩
            · trivial
    | _ => trivial

theorem indexAddrC_ok (h : Rel E s w) (hG : GlobOk E G) (ht : TR E t a) {ty : TypeId} {x i : Operand} (ho : o.op = .indexAddr ty x i) : OpOk P E s w o a (indexAddrC P ty (evC G x) (evC G i) t s) := by
  have hx := evC_ok hG ht x
  have hi := evC_ok hG ht i
  generalize hv : a.eval x = v at hx
  generalize hiv : a.eval i = iv at hi
  unfold indexAddrC
  cases hu : P.underlying ty with
  | none => trivial
  | some d =>
    cases d with
    | slice e =>
      simp only
      cases hs : sizeT P e with
      | none => trivial
      | some n =>
        simp only
        split
        · rename_i k r off len es tight e1 e2
          obtain ⟨kk, rfl⟩ := natOf_ok e1 hi
          rw [e2] at hx
          rcases Bool.eq_false_or_eq_true (Nat.blt k len && n.beq es) with hb | hb
          · rw [cond_of_true hb]
            rw [Bool.and_eq_true] at hb
            have hlt : k < len := Nat.le_of_ble_eq_true hb.1
            have hn := Nat.eq_of_beq_eq_true hb.2
            subst hn
            cases hx with
            | sl hl hle htt hc =>
              obtain ⟨e3, _⟩ := hc (by omega)
              subst e3
              refine .ofVal h (v := .pointer (some ⟨_, _ + off + k * n, none⟩)) ?_ (by rw [Nat.add_assoc]; exact .ptr _ hl)
              simp [execOp, ho, hv, hiv, Instr.indexAt, asIntOf, run_underlying hu, sizeT_run hs, hlt, Addr.add_lit]
          · rw [cond_of_false hb]; trivial
        · rename_i k cs len tight nl e1 e2
          obtain ⟨kk, rfl⟩ := natOf_ok e1 hi
          rw [e2] at hx
          rcases Bool.eq_false_or_eq_true (Nat.blt k len && nonNil cs) with hb | hb
          · rw [cond_of_true hb]
            rw [Bool.and_eq_true] at hb
            have hlt : k < len := Nat.le_of_ble_eq_true hb.1
            cases hx with
            | lst hcs hle htt hn hc hz =>
              rename_i vs cap ad
              cases ad with
              | none => have := hc rfl; omega
              | some ad =>
                have hvs : vs ≠ [] := by
                  rintro rfl
                  cases hcs
                  simp [nonNil] at hb
                obtain ⟨b, base, e3, e4⟩ := hz hvs
                cases e3
                refine .ofVal h (v := .pointer (some ⟨b, base + k * n, none⟩)) ?_ (.ptrL _ hcs e4)
                simp [execOp, ho, hv, hiv, Instr.indexAt, asIntOf, run_underlying hu, sizeT_run hs, hlt, Addr.add_lit]
          · rw [cond_of_false hb]; trivial
        · trivial
    | array len e =>
      simp only
      cases hs : sizeT P e with
      | none => trivial
      | some n =>
        simp only
        split
        · rename_i k e1
          obtain ⟨kk, rfl⟩ := natOf_ok e1 hi
          rcases Bool.eq_false_or_eq_true (Nat.blt k len) with hb | hb
          · rw [cond_of_true hb]
            have hlt : k < len := Nat.le_of_ble_eq_true hb
            refine valO_ok h fun y hy => ?_
            obtain ⟨b, off, e2, e3⟩ := ptrAdd_ok hy hx
            refine ⟨_, ?_, e3⟩
            subst e2
            simp [execOp, ho, hv, hiv, Instr.indexAt, asIntOf, run_underlying hu, sizeT_run hs, hlt, Addr.add_lit, Instr.sureAddr]
          · rw [cond_of_false hb]; trivial
        · trivial
    | _ => trivial
end
end Go.Am
