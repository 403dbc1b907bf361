import Derived.Test.YtlibahklbbachaaGreatDoorRf22
set_option autoImplicit false
set_option maxRecDepth 100000
set_option linter.unusedSimpArgs false
set_option linter.unusedVariables false
namespace Go.Am
open Go
def relW {γ : Type} (s : St) (a : AV) (k : AV → Option γ) : Option γ :=
 match a with
 | .sl r off len es tight => relist0 s (.sl r off len es tight) k
 | a => ifK a.plain (k a)
def relWL {γ : Type} (s : St) : List AV → (List AV → Option γ) → Option γ
 | [], k => k []
 | a :: l, k => relW s a fun x => relWL s l fun q => k (x :: q)
def relWT {γ : Type} (s : St) (a : AV) (k : AV → Option γ) : Option γ :=
 match a with
 | .tup [.agg l, e] => relWL s l fun q => relW s e fun x => k (.tup [.agg q, x])
 | .tup [.agg l, .agg l2, e] => relWL s l fun q => relWL s l2 fun q2 => relW s e fun x => k (.tup [.agg q, .agg q2, x])
 | .agg l => relWL s l fun q => k (.agg q)
 | a => relW s a k
section
variable {E1 E3 : Env} {s1 : St} {w1 : World}
theorem relW_ok {γ : Type} (h : Rel E1 s1 w1) (hz : ∀ r b base i, E1.loc r = some (b, base) → E3.z b i = w1.cell? ⟨b, i, none⟩) (hp : ∀ b o v, E1.z b o = some v → E3.z b o = some v) {a : AV} {k : AV → Option γ} {r : γ} (hx : relW s1 a k = some r) {v : Value} (hv : VR E1 a v) : ∃ x, k x = some r ∧ VR E3 x v := by
 unfold relW at hx
 split at hx
 ·exact relist0_ok h hz hx hv
 ·obtain ⟨h1, h2⟩ := ifK_some hx
  exact ⟨_, h2, VR.plain hp hv h1⟩
theorem relWL_ok {γ : Type} (h : Rel E1 s1 w1) (hz : ∀ r b base i, E1.loc r = some (b, base) → E3.z b i = w1.cell? ⟨b, i, none⟩) (hp : ∀ b o v, E1.z b o = some v → E3.z b o = some v) : ∀ {l : List AV} {k : List AV → Option γ} {r : γ}, relWL s1 l k = some r → ∀ {vs : List Value}, VRL E1 l vs → ∃ q, k q = some r ∧ VRL E3 q vs
 | [], k, r, hx, vs, hv => by cases hv; exact ⟨_, hx, .nil⟩
 | a :: l, k, r, hx, vs, hv => by
  cases hv with
  | cons h1 h2 =>
   obtain ⟨x, hx, h3⟩ := relW_ok h hz hp hx h1
   obtain ⟨q, hx, h4⟩ := relWL_ok h hz hp hx h2
   exact ⟨_, hx, .cons h3 h4⟩
theorem relWT_ok {γ : Type} (h : Rel E1 s1 w1) (hz : ∀ r b base i, E1.loc r = some (b, base) → E3.z b i = w1.cell? ⟨b, i, none⟩) (hp : ∀ b o v, E1.z b o = some v → E3.z b o = some v) {a : AV} {k : AV → Option γ} {r : γ} (hx : relWT s1 a k = some r) {v : Value} (hv : VR E1 a v) : ∃ x, k x = some r ∧ VR E3 x v := by
 unfold relWT at hx
 split at hx
 ·cases hv with
  | tup hl => cases hl with
   | cons h1 h2 => cases h1 with
    | agg h1 => cases h2 with
     | cons h2 h3 =>
      cases h3
      obtain ⟨q, hx, k1⟩ := relWL_ok h hz hp hx h1
      obtain ⟨x, hx, k2⟩ := relW_ok h hz hp hx h2
      exact ⟨_, hx, .tup (.cons (.agg k1) (.cons k2 .nil))⟩
 ·cases hv with
  | tup hl => cases hl with
   | cons h1 h2 => cases h1 with
    | agg h1 => cases h2 with
     | cons h2 h3 => cases h2 with
      | agg h2 => cases h3 with
       | cons h3 h4 =>
        cases h4
        obtain ⟨q, hx, k1⟩ := relWL_ok h hz hp hx h1
        obtain ⟨q2, hx, k2⟩ := relWL_ok h hz hp hx h2
        obtain ⟨x, hx, k3⟩ := relW_ok h hz hp hx h3
        exact ⟨_, hx, .tup (.cons (.agg k1) (.cons (.agg k2) (.cons k3 .nil)))⟩
 ·cases hv with
  | agg hl =>
   obtain ⟨q, hx, h1⟩ := relWL_ok h hz hp hx hl
   exact ⟨_, hx, .agg h1⟩
 ·exact relW_ok h hz hp hx hv
end
def wX (F : List AV → Option (Bool × AV)) : List AV → St → Res := fun args s =>
 bif AV.plains args then match F args with | some p => bif p.1 then .ret p.2 s else .fail | none => .fail else .fail
def wK {β : Type} (F : List AV → Option (Bool × AV)) (args : List AV) (s : St) (kr : Res → Option β) : Option β :=
 ifK (AV.plains args) (match F args with | some p => ifK p.1 (kr (.ret p.2 s)) | none => none)
theorem wK_le {β : Type} (F : List AV → Option (Bool × AV)) (args : List AV) (s : St) (kr kr' : Res → Option β) (h : ∀ r, Le (kr r) (kr' r)) : Le (wK F args s kr) (kr' (wX F args s)) := by
 intro x hx
 obtain ⟨h1, h2⟩ := ifK_some hx
 split at h2
 ·rename_i p hp
  obtain ⟨hc, h2⟩ := ifK_some h2
  have e : wX F args s = .ret p.2 s := by simp only [wX, h1, hp, hc, cond_true]
  rw [e]
  exact h _ x h2
 ·cases h2
def WOk (P : Program) (G : Glob) (f : FuncId) (F : List AV → Option (Bool × AV)) : Prop :=
 ∀ (args : List AV) (s : St) (E : Env) (w : World) (vs : List Value), Rel E s w → GlobOk E G w → VRL E args vs → ResOk P E s w f vs (wX F args s)
def Res.freshW? : Res → Option AV
 | .ret v s => relWT s v some
 | _ => none
theorem w_known {P : Program} {G : Glob} (hm : P.follows .mixedOrders = true) (hn : NoNG P) (hp : GlobPlain G) {X : Known} (hX : KnownOk P G X) {Y : KnownK AV} (hY : KnownKOk X Y) {D : Live} {m loops n : Nat} {f : FuncId} {F : List AV → Option (Bool × AV)}
  (hF : ∀ ar x, F ar = some (true, x) → bodyY P G X Y loops n D Res.freshW? m P.funcs[f]? ar St.empty = some x) : WOk P G f F := by
 intro args s E w vs h hG ha
 unfold wX
 rcases Bool.eq_false_or_eq_true (AV.plains args) with hpl | hpl
 ·rw [cond_of_true hpl]
  split
  ·rename_i p hx
   obtain ⟨c, x⟩ := p
   cases c with
   | false => trivial
   | true =>
   have h3 := bodyY_le hY (hF args x hx)
   have this := bodyD_ok (D := D) hm hn (callN_ok hm hn hX loops n) m f args St.empty E.bare w vs h.bare (GlobOk.bare hp hG) (VRL.plain (E := E.bare) (E1 := E) (fun _ _ _ e => e) ha hpl)
   cases hb : bodyD P G (callN P G X loops n) D m P.funcs[f]? args St.empty with
   | ret y s1 =>
    rw [hb] at h3 this
    simp only [Res.freshW?] at h3
    have fin : ∀ (v' : Value) (w' : World) (E' : Env), Step E.bare St.empty w E' s1 w' → VR E' y v' → ∃ E2, Step E s w E2 s w' ∧ VR E2 x v' := by
     intro v' w' E' hs hv
     have hst : Step E s w E s w' := .alone h hs
     let B : Nat → Prop := fun b => w.heap.size ≤ b ∧ ((∃ r base, E'.loc r = some (b, base)) ∨ ∃ o u, E'.z b o = some u)
     have hB : ∀ b, B b → w.heap.size ≤ b ∧ (∀ r base, E.loc r ≠ some (b, base)) ∧ ∀ n, ¬ E.own n b := by
      rintro b ⟨hfresh, _⟩
      refine ⟨hfresh, fun r2 base2 e2 => ?_, fun m e2 => ?_⟩
      ·have := (h.lt r2 b base2 e2).2; omega
      ·have := (h.own m b e2).1; omega
     have hrow : ∀ r b base i, E'.loc r = some (b, base) → (E.froze w' B).z b i = w'.cell? ⟨b, i, none⟩ := fun r b base i e => by
      refine if_pos ⟨?_, .inl ⟨r, base, e⟩⟩
      rcases hs.new r b base e with h1 | ⟨r0, base0, h1⟩
      ·exact h1
      ·cases h1
     have hzz : ∀ b o u, E'.z b o = some u → (E.froze w' B).z b o = some u := fun b o u e => by
      rcases hs.zn b o u e with h1 | h1 | ⟨r0, base0, h1⟩
      ·have h1 : E.z b o = some u := h1
       have hlt : b < w.heap.size := World.block_lt_of_cell? w _ (h.z b o u h1)
       exact (if_neg fun hb => by have := hb.1; omega).trans h1
      ·exact (if_pos ⟨h1, .inr ⟨o, u, e⟩⟩).trans (hs.rel.z b o u e)
      ·cases h1
     obtain ⟨x', e1, e2⟩ := relWT_ok (E3 := E.froze w' B) hs.rel hrow hzz h3 hv
     cases e1
     exact ⟨_, Step.keptFrozen hst hB, e2⟩
    rcases this with ⟨h4, h5⟩ | ⟨v', w', E', h4, h5, h6⟩
    ·exact .inl ⟨h4, Calls.mono h5 fun e w' ⟨v', E', he, hs, hv⟩ => by
      obtain ⟨E2, k1, k2⟩ := fin v' w' E' hs hv
      exact ⟨v', E2, he, k1, k2⟩⟩
    ·obtain ⟨E2, k1, k2⟩ := fin v' w' E' h5 h6
     exact .inr ⟨v', w', E2, h4, k1, k2⟩
   | _ => rw [hb] at h3; cases h3
  ·trivial
 ·rw [cond_of_false hpl]; trivial
end Go.Am
