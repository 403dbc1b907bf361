import Derived.Test.YtlibahklbbachaaGreatDoorTx14
set_option autoImplicit false
set_option maxRecDepth 100000
set_option linter.unusedSimpArgs false
set_option linter.unusedVariables false
namespace Go.Am
open Go
def convS (s : St) : AV → Option AV
  | .agg l => match convZL s l with | some q => some (.agg q) | none => none
  | a => convZ s a
def convSL (s : St) : List AV → Option (List AV)
  | [] => some []
  | a :: l => match convS s a with
    | some x => match convSL s l with | some q => some (x :: q) | none => none
    | none => none
def convSQ {γ : Type} (s : St) (a : AV) (k : AV → Option γ) : Option γ :=
  match a with
  | .agg l => convQL s l fun q => k (.agg q)
  | a => convQ s a k
def convSQL {γ : Type} (s : St) : List AV → (List AV → Option γ) → Option γ
  | [], k => k []
  | a :: l, k => convSQ s a fun x => convSQL s l fun q => k (x :: q)
section
variable {E : Env} {s : St} {w : World}
theorem convS_ok (h : Rel E s w) {E0 : Env} (hz : ∀ b o v, E.stay w b o = some v → E0.z b o = some v) {a x : AV} (hx : convS s a = some x) {v : Value} (hv : VR E a v) : VR E0 x v := by
  unfold convS at hx
  split at hx
  · split at hx
    · rename_i q hq
      cases hx
      cases hv with
      | agg hl => exact .agg (convZL_ok h hz hq hl)
    · cases hx
  · exact convZ_ok h hz hx hv
theorem convSL_ok (h : Rel E s w) {E0 : Env} (hz : ∀ b o v, E.stay w b o = some v → E0.z b o = some v) : ∀ {l q : List AV}, convSL s l = some q → ∀ {vs : List Value}, VRL E l vs → VRL E0 q vs
  | [], q, hq, vs, hv => by cases hq; cases hv; exact .nil
  | a :: l, q, hq, vs, hv => by
    cases hv with
    | cons h1 h2 =>
      simp only [convSL] at hq
      split at hq
      · rename_i x hx
        split at hq
        · rename_i q' hq'
          cases hq
          exact .cons (convS_ok h hz hx h1) (convSL_ok h hz hq' h2)
        · cases hq
      · cases hq
end
theorem convSQ_eq {γ : Type} {s : St} {a : AV} {k : AV → Option γ} {r : γ} (h : convSQ s a k = some r) : ∃ x, convS s a = some x ∧ k x = some r := by
  unfold convSQ at h
  split at h
  · obtain ⟨q, h1, h2⟩ := convQL_eq h
    exact ⟨_, by simp only [convS, h1], h2⟩
  · rename_i ha
    obtain ⟨x, h1, h2⟩ := convQ_eq h
    refine ⟨x, ?_, h2⟩
    unfold convS
    split
    · rename_i l; exact (ha l rfl).elim
    · exact h1
theorem convSQL_eq {γ : Type} {s : St} : ∀ {l : List AV} {k : List AV → Option γ} {r : γ}, convSQL s l k = some r → ∃ q, convSL s l = some q ∧ k q = some r
  | [], k, r, h => ⟨[], rfl, h⟩
  | a :: l, k, r, h => by
    obtain ⟨x, h1, h2⟩ := convSQ_eq h
    obtain ⟨q, h3, h4⟩ := convSQL_eq h2
    exact ⟨x :: q, by simp only [convSL, h1, h3], h4⟩
def zsX (F : List AV → Option (Bool × AV)) : List AV → St → Res := fun args s =>
  match convSL s args with
  | some ar => bif AV.plains ar then match F ar with | some p => bif p.1 then .ret p.2 s else .fail | none => .fail else .fail
  | none => .fail
def zsK {β : Type} (F : List AV → Option (Bool × AV)) (args : List AV) (s : St) (kr : Res → Option β) : Option β :=
  convSQL s args fun ar => ifK (AV.plains ar) (match F ar with | some p => ifK p.1 (kr (.ret p.2 s)) | none => none)
theorem zsK_le {β : Type} (F : List AV → Option (Bool × AV)) (args : List AV) (s : St) (kr kr' : Res → Option β) (h : ∀ r, Le (kr r) (kr' r)) : Le (zsK F args s kr) (kr' (zsX F args s)) := by
  intro x hx
  obtain ⟨ar, h1, h2⟩ := convSQL_eq hx
  obtain ⟨hpl, h2⟩ := ifK_some h2
  split at h2
  · rename_i p hp
    obtain ⟨hc, h2⟩ := ifK_some h2
    have e : zsX F args s = .ret p.2 s := by simp only [zsX, h1, hpl, hp, hc, cond_true]
    rw [e]
    exact h _ x h2
  · cases h2
theorem convZL_plains {s : St} : ∀ {l : List AV}, AV.plains l = true → convZL s l = some l
  | [], _ => rfl
  | a :: l, h => by
    have h : (a.plain && AV.plains l) = true := h
    rw [Bool.and_eq_true] at h
    have e : convZ s a = some a := by
      unfold convZ
      split
      · cases h.1
      · rw [h.1]; rfl
    simp only [convZL, e, convZL_plains h.2]
theorem zs_of_z {P : Program} {G : Glob} (hp : GlobPlain G) {f : FuncId} {F : List AV → Option (Bool × AV)} (hk : ZOk P G f F) (hflat : ∀ ar x, F ar = some (true, x) → x.flat = true) :
    ∀ (args : List AV) (s : St) (E : Env) (w : World) (vs : List Value), Rel E s w → GlobOk E G w → VRL E args vs → ResOk P E s w f vs (zsX F args s) := by
  intro args s E w vs h hG ha
  unfold zsX
  split
  · rename_i ar har
    rcases Bool.eq_false_or_eq_true (AV.plains ar) with hpl | hpl
    rotate_left
    · rw [cond_of_false hpl]; trivial
    rw [cond_of_true hpl]
    split
    · rename_i p hx
      obtain ⟨c, x⟩ := p
      cases c with
      | false => trivial
      | true =>
      have hz : ∀ b o v, E.stay w b o = some v → (E.look w).z b o = some v := fun _ _ _ e => e
      have k := hk ar St.empty (E.look w) w vs h.look (GlobOk.one h hp hG hz rfl) (convSL_ok h hz har ha)
      have hfl := hflat ar x hx
      unfold zX at k
      rw [convZL_plains hpl] at k
      simp only [hx, cond_true] at k ⊢
      have fin : ∀ (v' : Value) (w' : World) (E' : Env), Step (E.look w) St.empty w E' St.empty w' → VR E' x v' → ∃ E2, Step E s w E2 s w' ∧ VR E2 x v' := fun v' w' E' hs hv => ⟨E, .looked h hs, hv.flat hfl⟩
      rcases k with ⟨h4, h5⟩ | ⟨v', w', E', h4, h5, h6⟩
      · exact .inl ⟨h4, Calls.mono h5 fun e w' ⟨v', E', he, hs, hv⟩ => by
          obtain ⟨E2, k1, k2⟩ := fin v' w' E' hs hv
          exact ⟨v', E2, he, k1, k2⟩⟩
      · obtain ⟨E2, k1, k2⟩ := fin v' w' E' h5 h6
        exact .inr ⟨v', w', E2, h4, k1, k2⟩
    · trivial
  · trivial
end Go.Am
