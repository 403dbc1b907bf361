import Derived.Test.YtlibahklbbachaaGreatDoorRf7
set_option autoImplicit false
set_option maxRecDepth 100000
set_option linter.unusedSimpArgs false
set_option linter.unusedVariables false
section
namespace Go.Am
open Go
/-! ## Arguments -/
def convZ (s : St) : AV → Option AV
 | .sl r off len es tight => match rowAt s r with
  | some o => match cutN (len * es) off o.vals with
   | some cs => bif AV.plains cs then some (.lst cs len tight false) else none
   | none => none
  | none => none
 | a => bif a.plain then some a else none
def convZL (s : St) : List AV → Option (List AV)
 | [] => some []
 | a :: l => match convZ s a with
  | some x => match convZL s l with | some q => some (x :: q) | none => none
  | none => none
section
variable {E : Env} {s : St} {w : World}
theorem convZ_ok (h : Rel E s w) {E0 : Env} (hz : ∀ b o v, E.stay w b o = some v → E0.z b o = some v) {a x : AV} (hx : convZ s a = some x) {v : Value} (hv : VR E a v) : VR E0 x v := by
 have other : ∀ {a : AV}, VR E a v → (bif a.plain then some a else none) = some x → VR E0 x v := fun {a} hv hx => by
  rcases Bool.eq_false_or_eq_true a.plain with hp | hp
  ·rw [cond_of_true hp] at hx; cases hx; exact VR.plain (fun b o u e => hz b o u (stay_z h e)) hv hp
  ·rw [cond_of_false hp] at hx; cases hx
 unfold convZ at hx
 split at hx
 ·rename_i r off len es tight
  split at hx
  ·rename_i o ho
   split at hx
   ·rename_i cs hc
    rcases Bool.eq_false_or_eq_true (AV.plains cs) with hb | hb
    ·rw [cond_of_true hb] at hx
     cases hx
     by_cases hl0 : 0 < len
     ·refine convA_ok h hz (a := .sl r off len es tight) ?_ hv
      simp only [convA, ho, hc, hb, Bool.and_true]
      have : Nat.blt 0 len = true := by simpa using hl0
      rw [this]; rfl
     ·have hl : len = 0 := by omega
      subst hl
      have : cs = [] := by
       have := cutN_len hc
       exact List.eq_nil_of_length_eq_zero (by omega)
      subst this
      cases hv with
      | sl hloc hle ht ha hsome =>
       rename_i b base cap a
       refine .lst .nil hle ht ?_ (fun e => absurd e hsome) (fun e => absurd rfl e)
       cases a with
       | none => exact absurd rfl hsome
       | some => rfl
    ·rw [cond_of_false hb] at hx; cases hx
   ·cases hx
  ·cases hx
 ·exact other hv hx
theorem convZL_ok (h : Rel E s w) {E0 : Env} (hz : ∀ b o v, E.stay w b o = some v → E0.z b o = some v) : ∀ {l q : List AV}, convZL s l = some q → ∀ {vs : List Value}, VRL E l vs → VRL E0 q vs
 | [], q, hq, vs, hv => by cases hq; cases hv; exact .nil
 | a :: l, q, hq, vs, hv => by
  cases hv with
  | cons h1 h2 =>
   simp only [convZL] at hq
   split at hq
   ·rename_i x hx
    split at hq
    ·rename_i q' hq'
     cases hq
     exact .cons (convZ_ok h hz hx h1) (convZL_ok h hz hq' h2)
    ·cases hq
   ·cases hq
end
def convQ {γ : Type} (s : St) (a : AV) (k : AV → Option γ) : Option γ :=
 match a with
 | .sl r off len es tight => match rowAt s r with
  | some o => optK (fun cs => ifK (AV.plains cs) (k (.lst cs len tight false))) (cutN (len * es) off o.vals)
  | none => none
 | a => ifK a.plain (k a)
def convQL {γ : Type} (s : St) : List AV → (List AV → Option γ) → Option γ
 | [], k => k []
 | a :: l, k => convQ s a fun x => convQL s l fun q => k (x :: q)
theorem convQ_eq {γ : Type} {s : St} {a : AV} {k : AV → Option γ} {r : γ} (h : convQ s a k = some r) : ∃ x, convZ s a = some x ∧ k x = some r := by
 unfold convQ at h
 split at h
 ·split at h
  ·rename_i o ho
   obtain ⟨cs, hc, h⟩ := optK_some h
   obtain ⟨hb, h⟩ := ifK_some h
   refine ⟨_, ?_, h⟩
   simp only [convZ, ho, hc, hb, cond_true]
  ·cases h
 ·rename_i ha
  obtain ⟨hb, h⟩ := ifK_some h
  refine ⟨_, ?_, h⟩
  unfold convZ
  split
  ·rename_i r off len es tight _
   exact (ha r off len es tight rfl).elim
  ·rw [hb]; rfl
theorem convQL_eq {γ : Type} {s : St} : ∀ {l : List AV} {k : List AV → Option γ} {r : γ}, convQL s l k = some r → ∃ q, convZL s l = some q ∧ k q = some r
 | [], k, r, h => ⟨[], rfl, h⟩
 | a :: l, k, r, h => by
  obtain ⟨x, h1, h2⟩ := convQ_eq h
  obtain ⟨q, h3, h4⟩ := convQL_eq h2
  exact ⟨x :: q, by simp only [convZL, h1, h3], h4⟩
/-! ## What is handed over -/
def relist0 {γ : Type} (s : St) (a : AV) (k : AV → Option γ) : Option γ :=
 match a with
 | .sl r off len es tight => byB (Nat.beq len 0) (k (.lst [] 0 tight false)) (relist s (.sl r off len es tight) k)
 | a => relist s a k
def relist0L {γ : Type} (s : St) : List AV → (List AV → Option γ) → Option γ
 | [], k => k []
 | a :: l, k => relist0 s a fun x => relist0L s l fun q => k (x :: q)
def relist0T {γ : Type} (s : St) (a : AV) (k : AV → Option γ) : Option γ :=
 match a with
 | .tup [.agg l, e] => relist0L s l fun q => relist0 s e fun x => k (.tup [.agg q, x])
 | .tup [.agg l, .agg l2, e] => relist0L s l fun q => relist0L s l2 fun q2 => relist0 s e fun x => k (.tup [.agg q, .agg q2, x])
 | .agg l => relist0L s l fun q => k (.agg q)
 | a => relist0 s a k
section
variable {E1 E3 : Env} {s1 : St} {w1 : World}
theorem relist0_ok {γ : Type} (h : Rel E1 s1 w1) (hz : ∀ r b base i, E1.loc r = some (b, base) → E3.z b i = w1.cell? ⟨b, i, none⟩) {a : AV} {k : AV → Option γ} {r : γ} (hx : relist0 s1 a k = some r) {v : Value} (hv : VR E1 a v) : ∃ x, k x = some r ∧ VR E3 x v := by
 unfold relist0 at hx
 split at hx
 ·rename_i r off len es tight
  cases hb : Nat.beq len 0 with
  | false => rw [hb] at hx; exact relist_ok h hz hx hv
  | true =>
   rw [hb] at hx
   have hl : len = 0 := Nat.eq_of_beq_eq_true hb
   subst hl
   refine ⟨_, hx, ?_⟩
   cases hv with
   | sl hloc hle ht ha hsome =>
    rename_i b base cap a
    refine .lst .nil hle ht ?_ (fun e => absurd e hsome) (fun e => absurd rfl e)
    cases a with
    | none => exact absurd rfl hsome
    | some => rfl
 ·exact relist_ok h hz hx hv
theorem relist0L_ok {γ : Type} (h : Rel E1 s1 w1) (hz : ∀ r b base i, E1.loc r = some (b, base) → E3.z b i = w1.cell? ⟨b, i, none⟩) : ∀ {l : List AV} {k : List AV → Option γ} {r : γ}, relist0L s1 l k = some r → ∀ {vs : List Value}, VRL E1 l vs → ∃ q, k q = some r ∧ VRL E3 q vs
 | [], k, r, hx, vs, hv => by cases hv; exact ⟨_, hx, .nil⟩
 | a :: l, k, r, hx, vs, hv => by
  cases hv with
  | cons h1 h2 =>
   obtain ⟨x, hx, h3⟩ := relist0_ok h hz hx h1
   obtain ⟨q, hx, h4⟩ := relist0L_ok h hz hx h2
   exact ⟨_, hx, .cons h3 h4⟩
theorem relist0T_ok {γ : Type} (h : Rel E1 s1 w1) (hz : ∀ r b base i, E1.loc r = some (b, base) → E3.z b i = w1.cell? ⟨b, i, none⟩) {a : AV} {k : AV → Option γ} {r : γ} (hx : relist0T s1 a k = some r) {v : Value} (hv : VR E1 a v) : ∃ x, k x = some r ∧ VR E3 x v := by
 unfold relist0T at hx
 split at hx
 ·cases hv with
  | tup hl => cases hl with
   | cons h1 h2 => cases h1 with
    | agg h1 => cases h2 with
     | cons h2 h3 =>
      cases h3
      obtain ⟨q, hx, k1⟩ := relist0L_ok h hz hx h1
      obtain ⟨x, hx, k2⟩ := relist0_ok h hz hx h2
      exact ⟨_, hx, .tup (.cons (.agg k1) (.cons k2 .nil))⟩
 ·cases hv with
  | tup hl => cases hl with
   | cons h1 h2 => cases h1 with
    | agg h1 => cases h2 with
     | cons h2 h3 => cases h2 with
      | agg h2 => cases h3 with
       | cons h3 h4 =>
        cases h4
        obtain ⟨q, hx, k1⟩ := relist0L_ok h hz hx h1
        obtain ⟨q2, hx, k2⟩ := relist0L_ok h hz hx h2
        obtain ⟨x, hx, k3⟩ := relist0_ok h hz hx h3
        exact ⟨_, hx, .tup (.cons (.agg k1) (.cons (.agg k2) (.cons k3 .nil)))⟩
 ·cases hv with
  | agg hl =>
   obtain ⟨q, hx, h1⟩ := relist0L_ok h hz hx hl
   exact ⟨_, hx, .agg h1⟩
 ·exact relist0_ok h hz hx hv
end
/-! ## A function of what it sees, that hands over values and new lists -/
def zX (F : List AV → Option (Bool × AV)) : List AV → St → Res := fun args s =>
 match convZL s args with
 | some ar => match F ar with | some p => bif p.1 then .ret p.2 s else .fail | none => .fail
 | none => .fail
def zK {β : Type} (F : List AV → Option (Bool × AV)) (args : List AV) (s : St) (kr : Res → Option β) : Option β :=
 convQL s args fun ar => match F ar with | some p => ifK p.1 (kr (.ret p.2 s)) | none => none
theorem zK_le {β : Type} (F : List AV → Option (Bool × AV)) (args : List AV) (s : St) (kr kr' : Res → Option β) (h : ∀ r, Le (kr r) (kr' r)) : Le (zK F args s kr) (kr' (zX F args s)) := by
 intro x hx
 obtain ⟨ar, h1, h2⟩ := convQL_eq hx
 split at h2
 ·rename_i p hp
  obtain ⟨hc, h2⟩ := ifK_some h2
  have e : zX F args s = .ret p.2 s := by simp only [zX, h1, hp, hc, cond_true]
  rw [e]
  exact h _ x h2
 ·cases h2
def ZOk (P : Program) (G : Glob) (f : FuncId) (F : List AV → Option (Bool × AV)) : Prop :=
 ∀ (args : List AV) (s : St) (E : Env) (w : World) (vs : List Value), Rel E s w → GlobOk E G w → VRL E args vs → ResOk P E s w f vs (zX F args s)
def Res.fresh0? : Res → Option AV
 | .ret v s => relist0T s v some
 | _ => none
theorem z_known {P : Program} {G : Glob} (hm : P.follows .mixedOrders = true) (hn : NoNG P) (hp : GlobPlain G) {X : Known} (hX : KnownOk P G X) {Y : KnownK AV} (hY : KnownKOk X Y) {D : Live} {m loops n : Nat} {f : FuncId} {F : List AV → Option (Bool × AV)}
  (hF : ∀ ar x, F ar = some (true, x) → bodyY P G X Y loops n D Res.fresh0? m P.funcs[f]? ar St.empty = some x) : ZOk P G f F := by
 intro args s E w vs h hG ha
 unfold zX
 split
 ·rename_i ar har
  split
  ·rename_i p hx
   obtain ⟨c, x⟩ := p
   cases c with
   | false => trivial
   | true =>
   have h3 := bodyY_le hY (hF ar x hx)
   have hz : ∀ b o v, E.stay w b o = some v → (E.look w).z b o = some v := fun _ _ _ e => e
   have this := bodyD_ok (D := D) hm hn (callN_ok hm hn hX loops n) m f ar St.empty (E.look w) w vs h.look (GlobOk.one h hp hG hz rfl) (convZL_ok h hz har ha)
   cases hb : bodyD P G (callN P G X loops n) D m P.funcs[f]? ar St.empty with
   | ret y s1 =>
    rw [hb] at h3 this
    simp only [Res.fresh0?] at h3
    have fin : ∀ (v' : Value) (w' : World) (E' : Env), Step (E.look w) St.empty w E' s1 w' → VR E' y v' → ∃ E2, Step E s w E2 s w' ∧ VR E2 x v' := by
     intro v' w' E' hs hv
     have hst : Step E s w E s w' := .looked h hs
     have hB : ∀ b, (∃ r base, E'.loc r = some (b, base)) → w.heap.size ≤ b ∧ (∀ r base, E.loc r ≠ some (b, base)) ∧ ∀ n, ¬ E.own n b := by
      rintro b ⟨r, base, e⟩
      have hfresh : w.heap.size ≤ b := by
       rcases hs.new r b base e with h1 | ⟨r0, base0, h1⟩
       ·exact h1
       ·cases h1
      refine ⟨hfresh, fun r2 base2 e2 => ?_, fun m e2 => ?_⟩
      ·have := (h.lt r2 b base2 e2).2; omega
      ·have := (h.own m b e2).1; omega
     obtain ⟨x', e1, e2⟩ := relist0T_ok (E3 := E.froze w' fun b => ∃ r base, E'.loc r = some (b, base)) hs.rel (fun r b base i e => if_pos ⟨r, base, e⟩) h3 hv
     cases e1
     exact ⟨_, Step.keptFrozen hst hB, e2⟩
    rcases this with ⟨h4, h5⟩ | ⟨v', w', E', h4, h5, h6⟩
    ·exact .inl ⟨h4, Calls.mono h5 fun e w' ⟨v', E', he, hs, hv⟩ => by
      obtain ⟨E2, k1, k2⟩ := fin v' w' E' hs hv
      exact ⟨v', E2, he, k1, k2⟩⟩
    ·obtain ⟨E2, k1, k2⟩ := fin v' w' E' h5 h6
     exact .inr ⟨v', w', E2, h4, k1, k2⟩
   | _ => rw [hb] at h3; cases h3
  ·trivial
 ·trivial
end Go.Am
end
section
namespace Go.Am
open Go
def rowR (s : St) (ty : TypeId) (cs : List AV) : AObj := .row { vals := cs, root := s.next, pos := 1, ep := 0, fep := 0, ext := 1 + cs.length, solo := true, ty := ty }
theorem Wf.push_rowR {s : St} (h : Wf s) (ty : TypeId) (vals : List AV) : Wf (s.push (rowR s ty vals)) where
 fresh r hr := by
  have hr' : s.next + 1 ≤ r := hr
  rw [St.get_push, if_neg (by omega)]; exact h.fresh r (by omega)
 root r o e := by
  by_cases hr : r = s.next
  ·subst hr
   rw [get_push_new] at e
   simp only [rowR, Option.some.injEq, AObj.row.injEq] at e
   subst e
   exact ⟨_, get_push_new, rfl, Nat.le_refl _, fun _ => Nat.le_refl _⟩
  ·have hlt : r < s.next := by
    rcases Nat.lt_or_ge r s.next with h1 | h1
    ·exact h1
    ·rw [St.get_push, if_neg (by omega), h.fresh r h1] at e; cases e
   rw [get_push_old hlt] at e
   obtain ⟨q, hq, h1, h2, h3⟩ := h.root r o e
   exact ⟨q, by rw [get_push_old (h.lt hq)]; exact hq, h1, h2, fun hv => h3 (by rw [h.valid_push e] at hv; exact hv)⟩
 solo r o e hs := by
  by_cases hr : r = s.next
  ·subst hr
   rw [get_push_new] at e
   simp only [rowR, Option.some.injEq, AObj.row.injEq] at e
   subst e
   refine ⟨rfl, fun r2 o2 e2 h2 => ?_⟩
   by_cases hr2 : r2 = s.next
   ·exact hr2
   ·have hlt : r2 < s.next := by
     rcases Nat.lt_or_ge r2 s.next with h1 | h1
     ·exact h1
     ·rw [St.get_push, if_neg (by omega), h.fresh r2 h1] at e2; cases e2
    rw [get_push_old hlt] at e2
    obtain ⟨q, hq, _⟩ := h.root r2 o2 e2
    have := h.lt hq
    omega
  ·have hlt : r < s.next := by
    rcases Nat.lt_or_ge r s.next with h1 | h1
    ·exact h1
    ·rw [St.get_push, if_neg (by omega), h.fresh r h1] at e; cases e
   rw [get_push_old hlt] at e
   obtain ⟨h1, h2⟩ := h.solo r o e hs
   refine ⟨h1, fun r2 o2 e2 h3 => ?_⟩
   by_cases hr2 : r2 = s.next
   ·subst hr2
    rw [get_push_new] at e2
    simp only [rowR, Option.some.injEq, AObj.row.injEq] at e2
    subst e2
    simp at h3; omega
   ·have hlt2 : r2 < s.next := by
     rcases Nat.lt_or_ge r2 s.next with h1 | h1
     ·exact h1
     ·rw [St.get_push, if_neg (by omega), h.fresh r2 h1] at e2; cases e2
    rw [get_push_old hlt2] at e2
    exact h2 r2 o2 e2 h3
 rle := by
  intro r o e
  rw [St.get_push] at e
  split at e
  ·rename_i hr
   simp only [rowR, Option.some.injEq, AObj.row.injEq] at e
   subst e
   exact Nat.le_of_eq hr
  ·exact h.rle r o e
theorem Rel.map_at {E : Env} {s : St} {w : World} (h : Rel E s w) {r : Nat} {o : Row} (hr : s.get r = some (.row o)) (hn : E.loc r = none) (hp : o.pos ≠ 0) {vs : List Value} (hv : VRL E o.vals vs)
  {b base : Nat} {c : Array Value} (hb : w.heap[b]? = some (.cells c o.ty (0, 0))) (hf : ∀ r0 base0, E.loc r0 ≠ some (b, base0)) (hz : ∀ i, E.z b i = none) (ho : ∀ n, ¬ E.own n b)
  (hc : ∀ (i : Nat) (v : Value), vs[i]? = some v → c[base + i]? = some v) (hl : base + o.vals.length ≤ c.size) :
  E.le (E.add r b base c.size) ∧ Rel (E.add r b base c.size) s w := by
 have hle : E.le (E.add r b base c.size) := Env.add_le hn fun r0 base0 e => absurd e (hf r0 base0)
 have hbs : b < w.heap.size := by
  rcases Nat.lt_or_ge b w.heap.size with h1 | h1
  ·exact h1
  ·rw [Array.getElem?_eq_none h1] at hb; cases hb
 refine ⟨hle, h.wf, ?_, ?_, h.z, ?_, ?_, ?_, ?_, ?_, ?_, h.hid, fun n k hk => ?_, h.hlt⟩
 rotate_right
 ·obtain ⟨o1, o2, o3⟩ := h.own n k hk
  refine ⟨o1, fun q base e => ?_, o3⟩
  rcases Env.add_loc e with ⟨_, h1⟩ | ⟨_, h1⟩
  ·cases h1; exact ho n hk
  ·exact o2 q base h1
 ·intro q b1 base1 e
  rcases Env.add_loc e with ⟨rfl, h1⟩ | ⟨_, h1⟩
  ·cases h1
   exact ⟨h.wf.lt hr, hbs⟩
  ·exact h.lt q b1 base1 h1
 ·intro q p e
  rcases Env.add_loc e with ⟨rfl, _⟩ | ⟨_, h1⟩
  ·exact ⟨_, hr⟩
  ·exact h.obj q p h1
 ·intro b1 i v q base1 e e2
  rcases Env.add_loc e2 with ⟨_, h1⟩ | ⟨_, h1⟩
  ·cases h1
   have e : E.z b i = some v := e
   rw [hz i] at e; cases e
  ·exact h.zap b1 i v q base1 e h1
 ·intro q o' b1 base1 e el
  rcases Env.add_loc el with ⟨rfl, h1⟩ | ⟨hq, h1⟩
  ·cases h1
   rw [hr] at e
   cases e
   exact ⟨c, o.ty, (0, 0), hb, by simp [Env.add], hl, fun _ => ⟨⟨rfl, rfl⟩, vs, VRL.mono hle hv, hc⟩⟩
  ·obtain ⟨c', ty', fz, g1, g2, g3, g4⟩ := h.row q o' b1 base1 e h1
   refine ⟨c', ty', fz, g1, ?_, g3, fun hv' => ?_⟩
   ·rw [hle.bsz q b1 base1 h1]; exact g2
   ·obtain ⟨hz, vs', k1, k2⟩ := g4 hv'
    exact ⟨hz, vs', VRL.mono hle k1, k2⟩
 ·intro q es b1 base1 e el
  rcases Env.add_loc el with ⟨rfl, h1⟩ | ⟨hq, h1⟩
  ·rw [hr] at e; cases e
  ·obtain ⟨ents, clock, g1, g2, g3⟩ := h.mapo q es b1 base1 e h1
   exact ⟨ents, clock, g1, VRL.mono hle g2, VRL.mono hle g3⟩
 ·intro q x n b1 base1 e el
  rcases Env.add_loc el with ⟨rfl, h1⟩ | ⟨hq, h1⟩
  ·rw [hr] at e; cases e
  ·exact h.iter q x n b1 base1 e h1
 ·intro r1 r2 b1 b2 b3 e1 e2
  rcases Env.add_loc e1 with ⟨rfl, h1⟩ | ⟨hq1, h1⟩ <;> rcases Env.add_loc e2 with ⟨rfl, h2⟩ | ⟨hq2, h2⟩
  ·exact .inl rfl
  ·cases h1; exact absurd h2 (hf r2 _)
  ·cases h2; exact absurd h1 (hf r1 _)
  ·exact h.coh r1 r2 _ _ _ h1 h2
 ·intro q o' b1 base1 e el hq hpos
  rcases Env.add_loc el with ⟨rfl, h1⟩ | ⟨_, h1⟩
  ·rw [hr] at e; cases e; exact absurd hpos hp
  ·exact h.b0 q o' b1 base1 e h1 hq hpos
structure NewRow where
 cs : List AV
 len : Nat
 es : Nat
 ty : TypeId
def rowX (F : List AV → Option (Bool × NewRow)) : List AV → St → Res := fun args s =>
 match convZL s args with
 | some ar => match F ar with | some p => bif p.1 then .ret (.sl s.next 0 p.2.len p.2.es false) (s.push (rowR s p.2.ty p.2.cs)) else .fail | none => .fail
 | none => .fail
def rowK {β : Type} (F : List AV → Option (Bool × NewRow)) (args : List AV) (s : St) (kr : Res → Option β) : Option β :=
 convQL s args fun ar => match F ar with | some p => ifK p.1 (kr (.ret (.sl s.next 0 p.2.len p.2.es false) (s.push (rowR s p.2.ty p.2.cs)))) | none => none
theorem rowK_le {β : Type} (F : List AV → Option (Bool × NewRow)) (args : List AV) (s : St) (kr kr' : Res → Option β) (h : ∀ r, Le (kr r) (kr' r)) : Le (rowK F args s kr) (kr' (rowX F args s)) := by
 intro x hx
 obtain ⟨ar, h1, h2⟩ := convQL_eq hx
 split at h2
 ·rename_i p hp
  obtain ⟨hc, h2⟩ := ifK_some h2
  have e : rowX F args s = .ret (.sl s.next 0 p.2.len p.2.es false) (s.push (rowR s p.2.ty p.2.cs)) := by simp only [rowX, h1, hp, hc, cond_true]
  rw [e]
  exact h _ x h2
 ·cases h2
def RowOk (P : Program) (G : Glob) (f : FuncId) (F : List AV → Option (Bool × NewRow)) : Prop :=
 ∀ (args : List AV) (s : St) (E : Env) (w : World) (vs : List Value), Rel E s w → GlobOk E G w → VRL E args vs → ResOk P E s w f vs (rowX F args s)
def Res.row? : Res → Option NewRow
 | .ret (.sl r off len es _) s => match rowAt s r with
  | some o => optK (fun cs => ifK (AV.flats cs) (some ⟨cs, len, es, o.ty⟩)) (cutN (len * es) off o.vals)
  | none => none
 | _ => none
theorem row_known {P : Program} {G : Glob} (hm : P.follows .mixedOrders = true) (hn : NoNG P) (hp : GlobPlain G) {X : Known} (hX : KnownOk P G X) {Y : KnownK NewRow} (hY : KnownKOk X Y) {D : Live} {m loops n : Nat} {f : FuncId} {F : List AV → Option (Bool × NewRow)}
  (hF : ∀ ar x, F ar = some (true, x) → bodyY P G X Y loops n D Res.row? m P.funcs[f]? ar St.empty = some x) : RowOk P G f F := by
 intro args s E w vs h hG ha
 unfold rowX
 split
 ·rename_i ar har
  split
  ·rename_i p hx
   obtain ⟨c, x⟩ := p
   cases c with
   | false => trivial
   | true =>
   have h3 := bodyY_le hY (hF ar x hx)
   have hz : ∀ b o v, E.stay w b o = some v → (E.look w).z b o = some v := fun _ _ _ e => e
   have this := bodyD_ok (D := D) hm hn (callN_ok hm hn hX loops n) m f ar St.empty (E.look w) w vs h.look (GlobOk.one h hp hG hz rfl) (convZL_ok h hz har ha)
   cases hb : bodyD P G (callN P G X loops n) D m P.funcs[f]? ar St.empty with
   | ret y s1 =>
    rw [hb] at h3 this
    have fin : ∀ (v' : Value) (w' : World) (E' : Env), Step (E.look w) St.empty w E' s1 w' → VR E' y v' → ∃ E2, Step E s w E2 (s.push (rowR s x.ty x.cs)) w' ∧ VR E2 (.sl s.next 0 x.len x.es false) v' := by
     intro v' w' E' hs hv
     simp only [Res.row?] at h3
     split at h3
     case h_2 => cases h3
     rename_i y r off len es tight s1' heq
     cases heq
     split at h3
     case h_2 => cases h3
     rename_i o ho
     obtain ⟨cs, hc, h3⟩ := optK_some h3
     obtain ⟨hfl, h3⟩ := ifK_some h3
     cases h3
     have hst : Step E s w E s w' := .looked h hs
     obtain ⟨ho1, ho2⟩ := rowAt_eq ho
     cases hv with
     | sl hloc hle ht ha hsome =>
      rename_i b base cap a
      obtain ⟨c, ty, fz, g1, g2, g3, g4⟩ := hs.rel.row r o b base ho1 hloc
      obtain ⟨⟨rfl, rfl⟩, vs', k1, k2⟩ := g4 ho2
      have hfresh : w.heap.size ≤ b := by
       rcases hs.new r b base hloc with h1 | ⟨r0, base0, h1⟩
       ·exact h1
       ·cases h1
      have hpush := Step.push hst.rel (rowR s o.ty cs) (hst.rel.wf.push_rowR o.ty cs)
      have hcl : cs.length = len * es := cutN_len hc
      have hvs : VRL E cs ((vs'.drop off).take (len * es)) := by
       obtain ⟨e1, _⟩ := takeN_eq hc
       have : VRL E' cs ((vs'.drop off).take (len * es)) := by rw [e1]; exact (k1.drop off).take _
       exact VRL.flat this hfl
      have hnl : ∀ r0 base0, E.loc r0 ≠ some (b, base0) := fun r0 base0 e => by have := (h.lt r0 b base0 e).2; omega
      have hnz : ∀ i, E.z b i = none := fun i => by
       cases e : E.z b i with
       | none => rfl
       | some v => have : b < w.heap.size := World.block_lt_of_cell? w _ (h.z b i v e); omega
      have hno : ∀ n, ¬ E.own n b := fun n e => by have := (h.own n b e).1; omega
      have hk := hst.trans hpush
      have done : ∀ base' : Nat, E.le (E.add s.next b base' c.size) ∧ Rel (E.add s.next b base' c.size) (s.push (rowR s o.ty cs)) w' → Step E s w (E.add s.next b base' c.size) (s.push (rowR s o.ty cs)) w' := fun base' hm => by
       refine ⟨hm.1, fun q hq => Env.add_ne (by omega), fun q b1 base1 e => ?_, hm.2, hk.un, hk.next, hk.fr, hk.os, hk.tape, hk.output, hk.size, hk.owns, hk.hids, hk.zn⟩
       rcases Env.add_loc e with ⟨_, h3⟩ | ⟨_, h3⟩
       ·cases h3; exact .inl hfresh
       ·exact hk.new q b1 base1 h3
      by_cases hcap : 0 < cap
      ·obtain ⟨ea, eb⟩ := ha hcap
       rw [← g2] at eb
       have hle' : len * es ≤ cap * es := Nat.mul_le_mul_right es hle
       have hmap := hpush.rel.map_at (r := s.next) (o := { vals := cs, root := s.next, pos := 1, ep := 0, fep := 0, ext := 1 + cs.length, solo := true, ty := o.ty }) get_push_new h.loc_fresh (by simp) hvs (base := base + off) g1 hnl hnz hno
        (fun i v e => by
         rw [List.getElem?_take] at e
         split at e
         ·rw [List.getElem?_drop] at e
          rw [Nat.add_assoc]; exact k2 _ v e
         ·cases e) (by show base + off + cs.length ≤ c.size; omega)
       refine ⟨_, done _ hmap, .sl (b := b) (base := base + off) (Env.add_self _ _ _ _ _) hle (fun e => by cases e) (fun _ => ⟨ea, ?_⟩) hsome⟩
       show base + off + 0 + cap * es ≤ (if b = b then c.size else E.bsz b)
       rw [if_pos rfl]; omega
      ·have hl0 : len = 0 := by omega
       subst hl0
       have hcs : cs = [] := List.eq_nil_of_length_eq_zero (by omega)
       subst hcs
       have hmap := hpush.rel.map_at (r := s.next) (o := { vals := [], root := s.next, pos := 1, ep := 0, fep := 0, ext := 1 + 0, solo := true, ty := o.ty }) get_push_new h.loc_fresh (by simp) (vs := []) .nil (base := 0) g1 hnl hnz hno (fun i v e => by simp at e) (by simp)
       exact ⟨_, done _ hmap, .sl (b := b) (base := 0) (Env.add_self _ _ _ _ _) hle (fun e => by cases e) (fun e => absurd e hcap) hsome⟩
    rcases this with ⟨h4, h5⟩ | ⟨v', w', E', h4, h5, h6⟩
    ·exact .inl ⟨h4, Calls.mono h5 fun e w' ⟨v', E', he, hs, hv⟩ => by
      obtain ⟨E2, k1, k2⟩ := fin v' w' E' hs hv
      exact ⟨v', E2, he, k1, k2⟩⟩
    ·obtain ⟨E2, k1, k2⟩ := fin v' w' E' h5 h6
     exact .inr ⟨v', w', E2, h4, k1, k2⟩
   | _ => rw [hb] at h3; cases h3
  ·trivial
 ·trivial
end Go.Am
end
