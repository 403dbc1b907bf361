import Derived.Test.YtlibahklbbachaaGreatDoorTx7
set_option autoImplicit false
set_option maxRecDepth 100000
set_option linter.unusedSimpArgs false
set_option linter.unusedVariables false
section
namespace Go.Am
open Go
/-! ## Arguments -/
def convZ (s : St) : AV → Option AV
  | .sl r off len es tight => match rowAt s r with
    | some o => match cutN (len * es) off o.vals with
      | some cs => bif AV.plains cs then some (.lst cs len tight false) else none
      | none => none
    | none => none
  | a => bif a.plain then some a else none
def convZL (s : St) : List AV → Option (List AV)
  | [] => some []
  | a :: l => match convZ s a with
    | some x => match convZL s l with | some q => some (x :: q) | none => none
    | none => none
section
variable {E : Env} {s : St} {w : World}
theorem convZ_ok (h : Rel E s w) {E0 : Env} (hz : ∀ b o v, E.stay w b o = some v → E0.z b o = some v) {a x : AV} (hx : convZ s a = some x) {v : Value} (hv : VR E a v) : VR E0 x v := by
  have other : ∀ {a : AV}, VR E a v → (bif a.plain then some a else none) = some x → VR E0 x v := fun {a} hv hx => by
    rcases Bool.eq_false_or_eq_true a.plain with hp | hp
    · rw [cond_of_true hp] at hx; cases hx; exact VR.plain (fun b o u e => hz b o u (stay_z h e)) hv hp
    · rw [cond_of_false hp] at hx; cases hx
  unfold convZ at hx
  split at hx
  · rename_i r off len es tight
    split at hx
    · rename_i o ho
      split at hx
      · rename_i cs hc
        rcases Bool.eq_false_or_eq_true (AV.plains cs) with hb | hb
        · rw [cond_of_true hb] at hx
          cases hx
          by_cases hl0 : 0 < len
          · refine convA_ok h hz (a := .sl r off len es tight) ?_ hv
            simp only [convA, ho, hc, hb, Bool.and_true]
            have : Nat.blt 0 len = true := by simpa using hl0
            rw [this]; rfl
          · have hl : len = 0 := by omega
            subst hl
            have : cs = [] := by
              have := cutN_len hc
              exact List.eq_nil_of_length_eq_zero (by omega)
            subst this
            cases hv with
            | sl hloc hle ht ha hsome =>
              rename_i b base cap a
              refine .lst .nil hle ht ?_ (fun e => absurd e hsome) (fun e => absurd rfl e)
              cases a with
              | none => exact absurd rfl hsome
              | some => rfl
        · rw [cond_of_false hb] at hx; cases hx
      · cases hx
    · cases hx
  · exact other hv hx
theorem convZL_ok (h : Rel E s w) {E0 : Env} (hz : ∀ b o v, E.stay w b o = some v → E0.z b o = some v) : ∀ {l q : List AV}, convZL s l = some q → ∀ {vs : List Value}, VRL E l vs → VRL E0 q vs
  | [], q, hq, vs, hv => by cases hq; cases hv; exact .nil
  | a :: l, q, hq, vs, hv => by
    cases hv with
    | cons h1 h2 =>
      simp only [convZL] at hq
      split at hq
      · rename_i x hx
        split at hq
        · rename_i q' hq'
          cases hq
          exact .cons (convZ_ok h hz hx h1) (convZL_ok h hz hq' h2)
        · cases hq
      · cases hq
end
def convQ {γ : Type} (s : St) (a : AV) (k : AV → Option γ) : Option γ :=
  match a with
  | .sl r off len es tight => match rowAt s r with
    | some o => optK (fun cs => ifK (AV.plains cs) (k (.lst cs len tight false))) (cutN (len * es) off o.vals)
    | none => none
  | a => ifK a.plain (k a)
def convQL {γ : Type} (s : St) : List AV → (List AV → Option γ) → Option γ
  | [], k => k []
  | a :: l, k => convQ s a fun x => convQL s l fun q => k (x :: q)
theorem convQ_eq {γ : Type} {s : St} {a : AV} {k : AV → Option γ} {r : γ} (h : convQ s a k = some r) : ∃ x, convZ s a = some x ∧ k x = some r := by
  unfold convQ at h
  split at h
  · split at h
    · rename_i o ho
      obtain ⟨cs, hc, h⟩ := optK_some h
      obtain ⟨hb, h⟩ := ifK_some h
      refine ⟨_, ?_, h⟩
      simp only [convZ, ho, hc, hb, cond_true]
    · cases h
  · rename_i ha
    obtain ⟨hb, h⟩ := ifK_some h
    refine ⟨_, ?_, h⟩
    unfold convZ
    split
    · rename_i r off len es tight _
      exact (ha r off len es tight rfl).elim
    · rw [hb]; rfl
theorem convQL_eq {γ : Type} {s : St} : ∀ {l : List AV} {k : List AV → Option γ} {r : γ}, convQL s l k = some r → ∃ q, convZL s l = some q ∧ k q = some r
  | [], k, r, h => ⟨[], rfl, h⟩
  | a :: l, k, r, h => by
    obtain ⟨x, h1, h2⟩ := convQ_eq h
    obtain ⟨q, h3, h4⟩ := convQL_eq h2
    exact ⟨x :: q, by simp only [convZL, h1, h3], h4⟩
/-! ## What is handed over -/
def relist0 {γ : Type} (s : St) (a : AV) (k : AV → Option γ) : Option γ :=
  match a with
  | .sl r off len es tight => byB (Nat.beq len 0) (k (.lst [] 0 tight false)) (relist s (.sl r off len es tight) k)
  | a => relist s a k
def relist0L {γ : Type} (s : St) : List AV → (List AV → Option γ) → Option γ
  | [], k => k []
  | a :: l, k => relist0 s a fun x => relist0L s l fun q => k (x :: q)
def relist0T {γ : Type} (s : St) (a : AV) (k : AV → Option γ) : Option γ :=
  match a with
  | .tup [.agg l, e] => relist0L s l fun q => relist0 s e fun x => k (.tup [.agg q, x])
  | .tup [.agg l, .agg l2, e] => relist0L s l fun q => relist0L s l2 fun q2 => relist0 s e fun x => k (.tup [.agg q, .agg q2, x])
  | .agg l => relist0L s l fun q => k (.agg q)
  | a => relist0 s a k
section
variable {E1 E3 : Env} {s1 : St} {w1 : World}
theorem relist0_ok {γ : Type} (h : Rel E1 s1 w1) (hz : ∀ r b base i, E1.loc r = some (b, base) → E3.z b i = w1.cell? ⟨b, i, none⟩) {a : AV} {k : AV → Option γ} {r : γ} (hx : relist0 s1 a k = some r) {v : Value} (hv : VR E1 a v) : ∃ x, k x = some r ∧ VR E3 x v := by
  unfold relist0 at hx
  split at hx
  · rename_i r off len es tight
    cases hb : Nat.beq len 0 with
    | false => rw [hb] at hx; exact relist_ok h hz hx hv
    | true =>
      rw [hb] at hx
      have hl : len = 0 := Nat.eq_of_beq_eq_true hb
      subst hl
      refine ⟨_, hx, ?_⟩
      cases hv with
      | sl hloc hle ht ha hsome =>
        rename_i b base cap a
        refine .lst .nil hle ht ?_ (fun e => absurd e hsome) (fun e => absurd rfl e)
        cases a with
        | none => exact absurd rfl hsome
        | some => rfl
  · exact relist_ok h hz hx hv
theorem relist0L_ok {γ : Type} (h : Rel E1 s1 w1) (hz : ∀ r b base i, E1.loc r = some (b, base) → E3.z b i = w1.cell? ⟨b, i, none⟩) : ∀ {l : List AV} {k : List AV → Option γ} {r : γ}, relist0L s1 l k = some r → ∀ {vs : List Value}, VRL E1 l vs → ∃ q, k q = some r ∧ VRL E3 q vs
  | [], k, r, hx, vs, hv => by cases hv; exact ⟨_, hx, .nil⟩
  | a :: l, k, r, hx, vs, hv => by
    cases hv with
    | cons h1 h2 =>
      obtain ⟨x, hx, h3⟩ := relist0_ok h hz hx h1
      obtain ⟨q, hx, h4⟩ := relist0L_ok h hz hx h2
      exact ⟨_, hx, .cons h3 h4⟩
theorem relist0T_ok {γ : Type} (h : Rel E1 s1 w1) (hz : ∀ r b base i, E1.loc r = some (b, base) → E3.z b i = w1.cell? ⟨b, i, none⟩) {a : AV} {k : AV → Option γ} {r : γ} (hx : relist0T s1 a k = some r) {v : Value} (hv : VR E1 a v) : ∃ x, k x = some r ∧ VR E3 x v := by
  unfold relist0T at hx
  split at hx
  · cases hv with
    | tup hl => cases hl with
      | cons h1 h2 => cases h1 with
        | agg h1 => cases h2 with
          | cons h2 h3 =>
            cases h3
            obtain ⟨q, hx, k1⟩ := relist0L_ok h hz hx h1
            obtain ⟨x, hx, k2⟩ := relist0_ok h hz hx h2
            exact ⟨_, hx, .tup (.cons (.agg k1) (.cons k2 .nil))⟩
  · cases hv with
    | tup hl => cases hl with
      | cons h1 h2 => cases h1 with
        | agg h1 => cases h2 with
          | cons h2 h3 => cases h2 with
            | agg h2 => cases h3 with
              | cons h3 h4 =>
                cases h4
                obtain ⟨q, hx, k1⟩ := relist0L_ok h hz hx h1
                obtain ⟨q2, hx, k2⟩ := relist0L_ok h hz hx h2
                obtain ⟨x, hx, k3⟩ := relist0_ok h hz hx h3
                exact ⟨_, hx, .tup (.cons (.agg k1) (.cons (.agg k2) (.cons k3 .nil)))⟩
  · cases hv with
    | agg hl =>
      obtain ⟨q, hx, h1⟩ := relist0L_ok h hz hx hl
      exact ⟨_, hx, .agg h1⟩
  · exact relist0_ok h hz hx hv
end
/-! ## A function of what it sees, that hands over values and new lists -/
def zX (F : List AV → Option (Bool × AV)) : List AV → St → Res := fun args s =>
  match convZL s args with
  | some ar => match F ar with | some p => bif p.1 then .ret p.2 s else .fail | none => .fail
  | none => .fail
def zK {β : Type} (F : List AV → Option (Bool × AV)) (args : List AV) (s : St) (kr : Res → Option β) : Option β :=
  convQL s args fun ar => match F ar with | some p => ifK p.1 (kr (.ret p.2 s)) | none => none
theorem zK_le {β : Type} (F : List AV → Option (Bool × AV)) (args : List AV) (s : St) (kr kr' : Res → Option β) (h : ∀ r, Le (kr r) (kr' r)) : Le (zK F args s kr) (kr' (zX F args s)) := by
  intro x hx
  obtain ⟨ar, h1, h2⟩ := convQL_eq hx
  split at h2
  · rename_i p hp
    obtain ⟨hc, h2⟩ := ifK_some h2
    have e : zX F args s = .ret p.2 s := by simp only [zX, h1, hp, hc, cond_true]
    rw [e]
    exact h _ x h2
  · cases h2
def ZOk (P : Program) (G : Glob) (f : FuncId) (F : List AV → Option (Bool × AV)) : Prop :=
  ∀ (args : List AV) (s : St) (E : Env) (w : World) (vs : List Value), Rel E s w → GlobOk E G w → VRL E args vs → ResOk P E s w f vs (zX F args s)
def Res.fresh0? : Res → Option AV
  | .ret v s => relist0T s v some
  | _ => none
theorem z_known {P : Program} {G : Glob} (hm : P.follows .mixedOrders = true) (hn : NoNG P) (hp : GlobPlain G) {X : Known} (hX : KnownOk P G X) {Y : KnownK AV} (hY : KnownKOk X Y) {D : Live} {m loops n : Nat} {f : FuncId} {F : List AV → Option (Bool × AV)}
    (hF : ∀ ar x, F ar = some (true, x) → bodyY P G X Y loops n D Res.fresh0? m P.funcs[f]? ar St.empty = some x) : ZOk P G f F := by
  intro args s E w vs h hG ha
  unfold zX
  split
  · rename_i ar har
    split
    · rename_i p hx
      obtain ⟨c, x⟩ := p
      cases c with
      | false => trivial
      | true =>
      have h3 := bodyY_le hY (hF ar x hx)
      have hz : ∀ b o v, E.stay w b o = some v → (E.look w).z b o = some v := fun _ _ _ e => e
      have this := bodyD_ok (D := D) hm hn (callN_ok hm hn hX loops n) m f ar St.empty (E.look w) w vs h.look (GlobOk.one h hp hG hz rfl) (convZL_ok h hz har ha)
      cases hb : bodyD P G (callN P G X loops n) D m P.funcs[f]? ar St.empty with
      | ret y s1 =>
        rw [hb] at h3 this
        simp only [Res.fresh0?] at h3
        have fin : ∀ (v' : Value) (w' : World) (E' : Env), Step (E.look w) St.empty w E' s1 w' → VR E' y v' → ∃ E2, Step E s w E2 s w' ∧ VR E2 x v' := by
          intro v' w' E' hs hv
          have hst : Step E s w E s w' := .looked h hs
          have hB : ∀ b, (∃ r base, E'.loc r = some (b, base)) → w.heap.size ≤ b ∧ (∀ r base, E.loc r ≠ some (b, base)) ∧ ∀ n, ¬ E.own n b := by
            rintro b ⟨r, base, e⟩
            have hfresh : w.heap.size ≤ b := by
              rcases hs.new r b base e with h1 | ⟨r0, base0, h1⟩
              · exact h1
              · cases h1
            refine ⟨hfresh, fun r2 base2 e2 => ?_, fun m e2 => ?_⟩
            · have := (h.lt r2 b base2 e2).2; omega
            · have := (h.own m b e2).1; omega
          obtain ⟨x', e1, e2⟩ := relist0T_ok (E3 := E.froze w' fun b => ∃ r base, E'.loc r = some (b, base)) hs.rel (fun r b base i e => if_pos ⟨r, base, e⟩) h3 hv
          cases e1
          exact ⟨_, Step.keptFrozen hst hB, e2⟩
        rcases this with ⟨h4, h5⟩ | ⟨v', w', E', h4, h5, h6⟩
        · exact .inl ⟨h4, Calls.mono h5 fun e w' ⟨v', E', he, hs, hv⟩ => by
            obtain ⟨E2, k1, k2⟩ := fin v' w' E' hs hv
            exact ⟨v', E2, he, k1, k2⟩⟩
        · obtain ⟨E2, k1, k2⟩ := fin v' w' E' h5 h6
          exact .inr ⟨v', w', E2, h4, k1, k2⟩
      | _ => rw [hb] at h3; cases h3
    · trivial
  · trivial
end Go.Am
end
section
namespace Go.Am
open Go
def relW {γ : Type} (s : St) (a : AV) (k : AV → Option γ) : Option γ :=
  match a with
  | .sl r off len es tight => relist0 s (.sl r off len es tight) k
  | a => ifK a.plain (k a)
def relWL {γ : Type} (s : St) : List AV → (List AV → Option γ) → Option γ
  | [], k => k []
  | a :: l, k => relW s a fun x => relWL s l fun q => k (x :: q)
def relWT {γ : Type} (s : St) (a : AV) (k : AV → Option γ) : Option γ :=
  match a with
  | .tup [.agg l, e] => relWL s l fun q => relW s e fun x => k (.tup [.agg q, x])
  | .tup [.agg l, .agg l2, e] => relWL s l fun q => relWL s l2 fun q2 => relW s e fun x => k (.tup [.agg q, .agg q2, x])
  | .agg l => relWL s l fun q => k (.agg q)
  | a => relW s a k
section
variable {E1 E3 : Env} {s1 : St} {w1 : World}
theorem relW_ok {γ : Type} (h : Rel E1 s1 w1) (hz : ∀ r b base i, E1.loc r = some (b, base) → E3.z b i = w1.cell? ⟨b, i, none⟩) (hp : ∀ b o v, E1.z b o = some v → E3.z b o = some v) {a : AV} {k : AV → Option γ} {r : γ} (hx : relW s1 a k = some r) {v : Value} (hv : VR E1 a v) : ∃ x, k x = some r ∧ VR E3 x v := by
  unfold relW at hx
  split at hx
  · exact relist0_ok h hz hx hv
  · obtain ⟨h1, h2⟩ := ifK_some hx
    exact ⟨_, h2, VR.plain hp hv h1⟩
theorem relWL_ok {γ : Type} (h : Rel E1 s1 w1) (hz : ∀ r b base i, E1.loc r = some (b, base) → E3.z b i = w1.cell? ⟨b, i, none⟩) (hp : ∀ b o v, E1.z b o = some v → E3.z b o = some v) : ∀ {l : List AV} {k : List AV → Option γ} {r : γ}, relWL s1 l k = some r → ∀ {vs : List Value}, VRL E1 l vs → ∃ q, k q = some r ∧ VRL E3 q vs
  | [], k, r, hx, vs, hv => by cases hv; exact ⟨_, hx, .nil⟩
  | a :: l, k, r, hx, vs, hv => by
    cases hv with
    | cons h1 h2 =>
      obtain ⟨x, hx, h3⟩ := relW_ok h hz hp hx h1
      obtain ⟨q, hx, h4⟩ := relWL_ok h hz hp hx h2
      exact ⟨_, hx, .cons h3 h4⟩
theorem relWT_ok {γ : Type} (h : Rel E1 s1 w1) (hz : ∀ r b base i, E1.loc r = some (b, base) → E3.z b i = w1.cell? ⟨b, i, none⟩) (hp : ∀ b o v, E1.z b o = some v → E3.z b o = some v) {a : AV} {k : AV → Option γ} {r : γ} (hx : relWT s1 a k = some r) {v : Value} (hv : VR E1 a v) : ∃ x, k x = some r ∧ VR E3 x v := by
  unfold relWT at hx
  split at hx
  · cases hv with
    | tup hl => cases hl with
      | cons h1 h2 => cases h1 with
        | agg h1 => cases h2 with
          | cons h2 h3 =>
            cases h3
            obtain ⟨q, hx, k1⟩ := relWL_ok h hz hp hx h1
            obtain ⟨x, hx, k2⟩ := relW_ok h hz hp hx h2
            exact ⟨_, hx, .tup (.cons (.agg k1) (.cons k2 .nil))⟩
  · cases hv with
    | tup hl => cases hl with
      | cons h1 h2 => cases h1 with
        | agg h1 => cases h2 with
          | cons h2 h3 => cases h2 with
            | agg h2 => cases h3 with
              | cons h3 h4 =>
                cases h4
                obtain ⟨q, hx, k1⟩ := relWL_ok h hz hp hx h1
                obtain ⟨q2, hx, k2⟩ := relWL_ok h hz hp hx h2
                obtain ⟨x, hx, k3⟩ := relW_ok h hz hp hx h3
                exact ⟨_, hx, .tup (.cons (.agg k1) (.cons (.agg k2) (.cons k3 .nil)))⟩
  · cases hv with
    | agg hl =>
      obtain ⟨q, hx, h1⟩ := relWL_ok h hz hp hx hl
      exact ⟨_, hx, .agg h1⟩
  · exact relW_ok h hz hp hx hv
end
def wX (F : List AV → Option (Bool × AV)) : List AV → St → Res := fun args s =>
  bif AV.plains args then match F args with | some p => bif p.1 then .ret p.2 s else .fail | none => .fail else .fail
def wK {β : Type} (F : List AV → Option (Bool × AV)) (args : List AV) (s : St) (kr : Res → Option β) : Option β :=
  ifK (AV.plains args) (match F args with | some p => ifK p.1 (kr (.ret p.2 s)) | none => none)
theorem wK_le {β : Type} (F : List AV → Option (Bool × AV)) (args : List AV) (s : St) (kr kr' : Res → Option β) (h : ∀ r, Le (kr r) (kr' r)) : Le (wK F args s kr) (kr' (wX F args s)) := by
  intro x hx
  obtain ⟨h1, h2⟩ := ifK_some hx
  split at h2
  · rename_i p hp
    obtain ⟨hc, h2⟩ := ifK_some h2
    have e : wX F args s = .ret p.2 s := by simp only [wX, h1, hp, hc, cond_true]
    rw [e]
    exact h _ x h2
  · cases h2
def WOk (P : Program) (G : Glob) (f : FuncId) (F : List AV → Option (Bool × AV)) : Prop :=
  ∀ (args : List AV) (s : St) (E : Env) (w : World) (vs : List Value), Rel E s w → GlobOk E G w → VRL E args vs → ResOk P E s w f vs (wX F args s)
end Go.Am
end
section
namespace Go.Am
open Go
def relVT {γ : Type} (s : St) (a : AV) (k : AV → Option γ) : Option γ :=
  match a with
  | .tup (.sl r off len es tight :: l) => relWL s (.sl r off len es tight :: l) fun q => k (.tup q)
  | .tup (.lst c n t nl :: l) => relWL s (.lst c n t nl :: l) fun q => k (.tup q)
  | a => relWT s a k
section
variable {E1 E3 : Env} {s1 : St} {w1 : World}
theorem relVT_ok {γ : Type} (h : Rel E1 s1 w1) (hz : ∀ r b base i, E1.loc r = some (b, base) → E3.z b i = w1.cell? ⟨b, i, none⟩) (hp : ∀ b o v, E1.z b o = some v → E3.z b o = some v) {a : AV} {k : AV → Option γ} {r : γ} (hx : relVT s1 a k = some r) {v : Value} (hv : VR E1 a v) : ∃ x, k x = some r ∧ VR E3 x v := by
  unfold relVT at hx
  split at hx
  · cases hv with
    | tup hl =>
      obtain ⟨q, hx, h1⟩ := relWL_ok h hz hp hx hl
      exact ⟨_, hx, .tup h1⟩
  · cases hv with
    | tup hl =>
      obtain ⟨q, hx, h1⟩ := relWL_ok h hz hp hx hl
      exact ⟨_, hx, .tup h1⟩
  · exact relWT_ok h hz hp hx hv
end
def Res.freshV? : Res → Option AV
  | .ret v s => relVT s v some
  | _ => none
theorem v_known {P : Program} {G : Glob} (hm : P.follows .mixedOrders = true) (hn : NoNG P) (hp : GlobPlain G) {X : Known} (hX : KnownOk P G X) {Y : KnownK AV} (hY : KnownKOk X Y) {D : Live} {m loops n : Nat} {f : FuncId} {F : List AV → Option (Bool × AV)}
    (hF : ∀ ar x, F ar = some (true, x) → bodyY P G X Y loops n D Res.freshV? m P.funcs[f]? ar St.empty = some x) : WOk P G f F := by
  intro args s E w vs h hG ha
  unfold wX
  rcases Bool.eq_false_or_eq_true (AV.plains args) with hpl | hpl
  · rw [cond_of_true hpl]
    split
    · rename_i p hx
      obtain ⟨c, x⟩ := p
      cases c with
      | false => trivial
      | true =>
      have h3 := bodyY_le hY (hF args x hx)
      have this := bodyD_ok (D := D) hm hn (callN_ok hm hn hX loops n) m f args St.empty E.bare w vs h.bare (GlobOk.bare hp hG) (VRL.plain (E := E.bare) (E1 := E) (fun _ _ _ e => e) ha hpl)
      cases hb : bodyD P G (callN P G X loops n) D m P.funcs[f]? args St.empty with
      | ret y s1 =>
        rw [hb] at h3 this
        simp only [Res.freshV?] at h3
        have fin : ∀ (v' : Value) (w' : World) (E' : Env), Step E.bare St.empty w E' s1 w' → VR E' y v' → ∃ E2, Step E s w E2 s w' ∧ VR E2 x v' := by
          intro v' w' E' hs hv
          have hst : Step E s w E s w' := .alone h hs
          let B : Nat → Prop := fun b => w.heap.size ≤ b ∧ ((∃ r base, E'.loc r = some (b, base)) ∨ ∃ o u, E'.z b o = some u)
          have hB : ∀ b, B b → w.heap.size ≤ b ∧ (∀ r base, E.loc r ≠ some (b, base)) ∧ ∀ n, ¬ E.own n b := by
            rintro b ⟨hfresh, _⟩
            refine ⟨hfresh, fun r2 base2 e2 => ?_, fun m e2 => ?_⟩
            · have := (h.lt r2 b base2 e2).2; omega
            · have := (h.own m b e2).1; omega
          have hrow : ∀ r b base i, E'.loc r = some (b, base) → (E.froze w' B).z b i = w'.cell? ⟨b, i, none⟩ := fun r b base i e => by
            refine if_pos ⟨?_, .inl ⟨r, base, e⟩⟩
            rcases hs.new r b base e with h1 | ⟨r0, base0, h1⟩
            · exact h1
            · cases h1
          have hzz : ∀ b o u, E'.z b o = some u → (E.froze w' B).z b o = some u := fun b o u e => by
            rcases hs.zn b o u e with h1 | h1 | ⟨r0, base0, h1⟩
            · have h1 : E.z b o = some u := h1
              have hlt : b < w.heap.size := World.block_lt_of_cell? w _ (h.z b o u h1)
              exact (if_neg fun hb => by have := hb.1; omega).trans h1
            · exact (if_pos ⟨h1, .inr ⟨o, u, e⟩⟩).trans (hs.rel.z b o u e)
            · cases h1
          obtain ⟨x', e1, e2⟩ := relVT_ok (E3 := E.froze w' B) hs.rel hrow hzz h3 hv
          cases e1
          exact ⟨_, Step.keptFrozen hst hB, e2⟩
        rcases this with ⟨h4, h5⟩ | ⟨v', w', E', h4, h5, h6⟩
        · exact .inl ⟨h4, Calls.mono h5 fun e w' ⟨v', E', he, hs, hv⟩ => by
            obtain ⟨E2, k1, k2⟩ := fin v' w' E' hs hv
            exact ⟨v', E2, he, k1, k2⟩⟩
        · obtain ⟨E2, k1, k2⟩ := fin v' w' E' h5 h6
          exact .inr ⟨v', w', E2, h4, k1, k2⟩
      | _ => rw [hb] at h3; cases h3
    · trivial
  · rw [cond_of_false hpl]; trivial
end Go.Am
end
