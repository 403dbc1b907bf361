import Derived.Test.YtlibahklbbachaaGreatDoorTx14
set_option autoImplicit false
set_option maxRecDepth 100000
set_option linter.unusedSimpArgs false
set_option linter.unusedVariables false
namespace Go.Am
open Go
def relZT {γ : Type} (s : St) (a : AV) (k : AV → Option γ) : Option γ :=
  match a with
  | .tup (.sl r off len es tight :: l) => relist0L s (.sl r off len es tight :: l) fun q => k (.tup q)
  | .tup (.lst [] n t nl :: l) => relist0L s (.lst [] n t nl :: l) fun q => k (.tup q)
  | a => relist0T s a k
section
variable {E1 E3 : Env} {s1 : St} {w1 : World}
theorem relZT_ok {γ : Type} (h : Rel E1 s1 w1) (hz : ∀ r b base i, E1.loc r = some (b, base) → E3.z b i = w1.cell? ⟨b, i, none⟩) {a : AV} {k : AV → Option γ} {r : γ} (hx : relZT s1 a k = some r) {v : Value} (hv : VR E1 a v) : ∃ x, k x = some r ∧ VR E3 x v := by
  unfold relZT at hx
  split at hx
  · cases hv with
    | tup hl =>
      obtain ⟨q, hx, h1⟩ := relist0L_ok h hz hx hl
      exact ⟨_, hx, .tup h1⟩
  · cases hv with
    | tup hl =>
      obtain ⟨q, hx, h1⟩ := relist0L_ok h hz hx hl
      exact ⟨_, hx, .tup h1⟩
  · exact relist0T_ok h hz hx hv
end
def Res.freshZ? : Res → Option AV
  | .ret v s => relZT s v some
  | _ => none
theorem zv_known {P : Program} {G : Glob} (hm : P.follows .mixedOrders = true) (hn : NoNG P) (hp : GlobPlain G) {X : Known} (hX : KnownOk P G X) {Y : KnownK AV} (hY : KnownKOk X Y) {D : Live} {m loops n : Nat} {f : FuncId} {F : List AV → Option (Bool × AV)}
    (hF : ∀ ar x, F ar = some (true, x) → bodyY P G X Y loops n D Res.freshZ? m P.funcs[f]? ar St.empty = some x) : ZOk P G f F := by
  intro args s E w vs h hG ha
  unfold zX
  split
  · rename_i ar har
    split
    · rename_i p hx
      obtain ⟨c, x⟩ := p
      cases c with
      | false => trivial
      | true =>
      have h3 := bodyY_le hY (hF ar x hx)
      have hz : ∀ b o v, E.stay w b o = some v → (E.look w).z b o = some v := fun _ _ _ e => e
      have this := bodyD_ok (D := D) hm hn (callN_ok hm hn hX loops n) m f ar St.empty (E.look w) w vs h.look (GlobOk.one h hp hG hz rfl) (convZL_ok h hz har ha)
      cases hb : bodyD P G (callN P G X loops n) D m P.funcs[f]? ar St.empty with
      | ret y s1 =>
        rw [hb] at h3 this
        simp only [Res.freshZ?] at h3
        have fin : ∀ (v' : Value) (w' : World) (E' : Env), Step (E.look w) St.empty w E' s1 w' → VR E' y v' → ∃ E2, Step E s w E2 s w' ∧ VR E2 x v' := by
          intro v' w' E' hs hv
          have hst : Step E s w E s w' := .looked h hs
          have hB : ∀ b, (∃ r base, E'.loc r = some (b, base)) → w.heap.size ≤ b ∧ (∀ r base, E.loc r ≠ some (b, base)) ∧ ∀ n, ¬ E.own n b := by
            rintro b ⟨r, base, e⟩
            have hfresh : w.heap.size ≤ b := by
              rcases hs.new r b base e with h1 | ⟨r0, base0, h1⟩
              · exact h1
              · cases h1
            refine ⟨hfresh, fun r2 base2 e2 => ?_, fun m e2 => ?_⟩
            · have := (h.lt r2 b base2 e2).2; omega
            · have := (h.own m b e2).1; omega
          obtain ⟨x', e1, e2⟩ := relZT_ok (E3 := E.froze w' fun b => ∃ r base, E'.loc r = some (b, base)) hs.rel (fun r b base i e => if_pos ⟨r, base, e⟩) h3 hv
          cases e1
          exact ⟨_, Step.keptFrozen hst hB, e2⟩
        rcases this with ⟨h4, h5⟩ | ⟨v', w', E', h4, h5, h6⟩
        · exact .inl ⟨h4, Calls.mono h5 fun e w' ⟨v', E', he, hs, hv⟩ => by
            obtain ⟨E2, k1, k2⟩ := fin v' w' E' hs hv
            exact ⟨v', E2, he, k1, k2⟩⟩
        · obtain ⟨E2, k1, k2⟩ := fin v' w' E' h5 h6
          exact .inr ⟨v', w', E2, h4, k1, k2⟩
      | _ => rw [hb] at h3; cases h3
    · trivial
  · trivial
end Go.Am
