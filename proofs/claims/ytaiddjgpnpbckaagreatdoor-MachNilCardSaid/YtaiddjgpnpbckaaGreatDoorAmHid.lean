/- What is known by its meaning alone: functions that are handed a pointer to it. -/
import Derived.Test.YtaiddjgpnpbckaaGreatDoorAmList
set_option autoImplicit false
namespace Go.Am

def St.one (d : Hid) : St := St.empty.push (.hid d)

theorem one_get (d : Hid) (r : Nat) : (St.one d).get r = if 0 = r then some (.hid d) else none := by
  unfold St.one
  rw [St.get_push, St.get_empty]
  rfl
theorem one_next (d : Hid) : (St.one d).next = 1 := rfl

open Classical in
/-- What stays, for one who is handed nothing that lies somewhere. -/
noncomputable def Env.stay (E : Env) (w : World) : Nat → Nat → Option Value := fun b o => if ∃ r base, E.loc r = some (b, base) then w.cell? ⟨b, o, .none⟩ else E.z b o

noncomputable def Env.one (E : Env) (n : Nat) (w : World) : Env :=
  { loc := fun _ => .none, z := E.stay w, bsz := E.bsz, hb := fun m => if m = 0 then E.hb n else .none, own := fun m c => m = 0 ∧ E.own n c, H := E.H }

section
variable {E : Env} {s : St} {w : World}

theorem stay_at {b base r : Nat} (h : E.loc r = some (b, base)) (o : Nat) : E.stay w b o = w.cell? ⟨b, o, none⟩ := by
  unfold Env.stay; rw [if_pos ⟨r, base, h⟩]
theorem stay_not {b : Nat} (h : ∀ r base, E.loc r ≠ some (b, base)) (o : Nat) : E.stay w b o = E.z b o := by
  unfold Env.stay; rw [if_neg (fun ⟨r, base, e⟩ => h r base e)]
theorem stay_cell (h : Rel E s w) {b o : Nat} {v : Value} (e : E.stay w b o = some v) : w.cell? ⟨b, o, none⟩ = some v := by
  unfold Env.stay at e
  split at e
  · exact e
  · exact h.z b o v e
theorem stay_z (h : Rel E s w) {b o : Nat} {v : Value} (e : E.z b o = some v) : E.stay w b o = some v := by
  rw [stay_not (fun r base e2 => h.zap b o v r base e e2)]; exact e
theorem stay_own (h : Rel E s w) {n c : Nat} (hc : E.own n c) (o : Nat) : E.stay w c o = none := by
  rw [stay_not (h.own n c hc).2.1]; exact (h.own n c hc).2.2.1 o

theorem Rel.one (h : Rel E s w) {n : Nat} {d : Hid} (hd : s.get n = some (.hid d)) : Rel (E.one n w) (St.one d) w where
  wf := Wf.empty.push_other _ (by intro o; simp)
  lt r b base e := by cases e
  obj r p e := by cases e
  z b o v e := stay_cell h e
  zap b o v r base _ e := by cases e
  row r o b base _ e := by cases e
  mapo r es b base _ e := by cases e
  iter r x n b base _ e := by cases e
  coh r1 r2 b b1 b2 e := by cases e
  b0 r o b base _ e := by cases e
  hid m d1 b1 e eb w1 hw := by
    rw [one_get] at e
    split at e
    · rename_i h0
      subst h0
      cases e
      have hbe : (E.one n w).hb 0 = E.hb n := by show (if (0 : Nat) = 0 then E.hb n else .none) = E.hb n; rw [if_pos rfl]
      rw [hbe] at eb
      have := h.hid n d b1 hd eb w1 fun c hc => hw c ⟨rfl, hc⟩
      have e2 : (E.one n w).own 0 = E.own n := by funext c; exact propext ⟨fun x => x.2, fun x => ⟨rfl, x⟩⟩
      rw [e2]; exact this
    · cases e
  own m c e := ⟨(h.own n c e.2).1, fun r base e => (by cases e), stay_own h e.2, fun m' e' => e'.1.trans e.1.symm⟩
  hlt m b1 e := by
    have e : (if m = 0 then E.hb n else none) = some b1 := e
    by_cases hm : m = 0
    · subst hm; exact ⟨by rw [one_next]; omega, d, by rw [one_get, if_pos rfl]⟩
    · rw [if_neg hm] at e; cases e

theorem Wf.set_hid {n : Nat} {d d' : Hid} (h : Wf s) (hd : s.get n = some (.hid d)) : Wf (s.set n (.hid d')) ∧ (∀ r o, (s.set n (.hid d')).get r = some (.row o) ↔ s.get r = some (.row o)) ∧
    (∀ r o, s.get r = some (.row o) → valid (s.set n (.hid d')) o = valid s o) := by
  have hrow : ∀ r o, (s.set n (.hid d')).get r = some (.row o) ↔ s.get r = some (.row o) := fun r o => by
    by_cases hr : r = n
    · subst hr; rw [St.get_set_same, hd]; constructor <;> intro e <;> cases e
    · rw [St.get_set_ne _ _ (fun e => hr e.symm)]
  have hroot : ∀ r o, s.get r = some (.row o) → (s.set n (.hid d')).get o.root = s.get o.root := fun r o e => by
    obtain ⟨q, g1, _⟩ := h.root r o e
    rw [g1]; exact (hrow _ _).2 g1
  have hval : ∀ r o, s.get r = some (.row o) → valid (s.set n (.hid d')) o = valid s o := fun r o e => valid_congr (hroot r o e)
  refine ⟨⟨fun r hr => ?_, fun r o e => ?_, fun r o e hs => ?_⟩, hrow, hval⟩
  · have hlt := h.lt hd
    have hr : s.next ≤ r := hr
    rw [St.get_set_ne _ _ (by omega)]; exact h.fresh r hr
  · have e := (hrow r o).1 e
    obtain ⟨q, g1, g2, g3, g4⟩ := h.root r o e
    exact ⟨q, by rw [hroot r o e]; exact g1, g2, g3, fun hv => g4 (by rw [← hval r o e]; exact hv)⟩
  · obtain ⟨k1, k2⟩ := h.solo r o ((hrow r o).1 e) hs
    exact ⟨k1, fun r2 o2 e2 h2 => k2 r2 o2 ((hrow r2 o2).1 e2) h2⟩

/-- Where the thing's own blocks are now. -/
def Env.re (E : Env) (n : Nat) (own : Nat → Prop) : Env := { E with own := fun m c => if m = n then own c else E.own m c }

/-- What is known by its meaning has turned, and its own blocks alone. -/
theorem Step.turned {w' : World} (h : Rel E s w) {n : Nat} {d d' : Hid} {b : Nat} (hd : s.get n = some (.hid d)) (hb : E.hb n = some b) {own : Nat → Prop}
    (hold : ∀ c, c < w.heap.size → ¬ E.own n c → w'.heap[c]? = w.heap[c]?) (hsz : w.heap.size ≤ w'.heap.size) (hos : w'.os = w.os) (htp : w'.tape = w.tape) (hout : w'.output = w.output)
    (hown : ∀ c, own c → c < w'.heap.size ∧ (E.own n c ∨ w.heap.size ≤ c)) (hH : ∀ w1 : World, (∀ c, own c → w1.heap[c]? = w'.heap[c]?) → E.H d' b own w1) :
    Step E s w (E.re n own) (s.set n (.hid d')) w' := by
  obtain ⟨hwf, hrow, hval⟩ := h.wf.set_hid (d' := d') hd
  have hne : ∀ c, c < w.heap.size → ∀ r base, E.loc r = some (c, base) → w'.heap[c]? = w.heap[c]? := fun c hc r base e => hold c hc fun ho => (h.own n c ho).2.1 r base e
  have hoth : ∀ r, r ≠ n → (s.set n (.hid d')).get r = s.get r := fun r hr => St.get_set_ne _ _ (fun e => hr e.symm)
  have hle : E.le (E.re n own) := ⟨fun _ _ e => e, fun _ _ _ e => e, fun _ _ _ _ => rfl, fun _ _ e => e, rfl⟩
  have hloc : ∀ r base c, E.loc r = some (c, base) → own c → False := fun r base c e ho => by
    rcases (hown c ho).2 with h1 | h1
    · exact (h.own n c h1).2.1 r base e
    · have := (h.lt r c base e).2; omega
  refine ⟨hle, fun _ _ => rfl, fun r c base e => .inr ⟨r, base, e⟩, ?_, fun r _ _ _ hh => hoth r (fun e => by subst e; exact hh d hd), Nat.le_refl _, fun c hc _ ho => hold c hc (ho n), hos, htp, hout, hsz, fun m c e => ?_, fun m d1 e => ?_⟩
  · refine ⟨hwf, fun r c base e => ⟨(h.lt r c base e).1, Nat.lt_of_lt_of_le (h.lt r c base e).2 hsz⟩, fun r p e => ?_, fun c o v e => ?_, h.zap, fun r o c base e el => ?_, fun r es c base e el => ?_, fun r x k c base e el => ?_,
      fun r1 r2 c b1 b2 e1 e2 => ?_, fun r o c base e el hq => h.b0 r o c base ((hrow r o).1 e) el hq, fun m d1 b1 e eb w1 hw => ?_, fun m c e => ?_, fun m b1 e => ?_⟩
    · by_cases hr : r = n
      · subst hr; exact ⟨_, St.get_set_same _ _ _⟩
      · rw [hoth r hr]; exact h.obj r p e
    · have e : E.z c o = some v := e
      have h1 := h.z c o v e
      have hlt := World.block_lt_of_cell? w _ h1
      exact (World.cell?_of_block (w := w) (hold c hlt fun ho => by rw [(h.own n c ho).2.2.1 o] at e; cases e)).trans h1
    · have e := (hrow r o).1 e
      obtain ⟨c', ty, fz, g1, g2, g3, g4⟩ := h.row r o c base e el
      refine ⟨c', ty, fz, (hne c (h.lt r c base el).2 r base el).trans g1, g2, g3, fun hv => ?_⟩
      obtain ⟨hz, vs, k1, k2⟩ := g4 (by rw [← hval r o e]; exact hv)
      exact ⟨hz, vs, VRL.mono hle k1, k2⟩
    · have hr : r ≠ n := fun e2 => by subst e2; rw [St.get_set_same] at e; cases e
      rw [hoth r hr] at e
      obtain ⟨ents, clock, g1, g2, g3⟩ := h.mapo r es c base e el
      exact ⟨ents, clock, (hne c (h.lt r c base el).2 r base el).trans g1, VRL.mono hle g2, VRL.mono hle g3⟩
    · have hr : r ≠ n := fun e2 => by subst e2; rw [St.get_set_same] at e; cases e
      rw [hoth r hr] at e
      exact h.iter r x k c base e el
    · rcases h.coh r1 r2 c b1 b2 e1 e2 with h3 | ⟨o1, o2, k1, k2, k3, k4⟩
      · exact .inl h3
      · exact .inr ⟨o1, o2, (hrow r1 o1).2 k1, (hrow r2 o2).2 k2, k3, k4⟩
    · by_cases hm : m = n
      · subst hm
        rw [St.get_set_same] at e
        cases e
        have eb : E.hb m = some b1 := eb
        rw [hb] at eb; cases eb
        have e2 : (E.re m own).own m = own := by funext c; exact if_pos rfl
        rw [e2] at hw ⊢
        exact hH w1 hw
      · rw [hoth m hm] at e
        have e2 : (E.re n own).own m = E.own m := by funext c; exact if_neg hm
        rw [e2] at hw ⊢
        refine h.hid m d1 b1 e eb w1 fun c hc => (hw c hc).trans (hold c (h.own m c hc).1 fun ho => hm ((h.own n c ho).2.2.2 m hc))
    · have e : (if m = n then own c else E.own m c) := e
      have key : ∀ m', (if m' = n then own c else E.own m' c) → (c < w'.heap.size ∧ (E.own m' c ∨ m' = n ∧ w.heap.size ≤ c)) := fun m' e' => by
        by_cases hm' : m' = n
        · rw [if_pos hm'] at e'
          obtain ⟨q1, q2⟩ := hown c e'
          rcases q2 with q2 | q2
          · exact ⟨q1, .inl (by rw [hm']; exact q2)⟩
          · exact ⟨q1, .inr ⟨hm', q2⟩⟩
        · rw [if_neg hm'] at e'
          exact ⟨Nat.lt_of_lt_of_le (h.own m' c e').1 hsz, .inl e'⟩
      obtain ⟨q1, q2⟩ := key m e
      refine ⟨q1, fun r base el => ?_, fun o => ?_, fun m' e' => ?_⟩
      · have el : E.loc r = some (c, base) := el
        rcases q2 with q2 | ⟨_, q2⟩
        · exact (h.own m c q2).2.1 r base el
        · have := (h.lt r c base el).2; omega
      · show E.z c o = none
        rcases q2 with q2 | ⟨_, q2⟩
        · exact (h.own m c q2).2.2.1 o
        · cases hz : E.z c o with
          | none => rfl
          | some v => have := World.block_lt_of_cell? w _ (h.z c o v hz); simp at this; omega
      · obtain ⟨_, p2⟩ := key m' e'
        rcases q2 with q2 | ⟨q2, q3⟩ <;> rcases p2 with p2 | ⟨p2, p3⟩
        · exact (h.own m c q2).2.2.2 m' p2
        · have := (h.own m c q2).1; omega
        · have := (h.own m' c p2).1; omega
        · rw [p2, q2]
    · obtain ⟨h1, d1, h2⟩ := h.hlt m b1 e
      refine ⟨h1, ?_⟩
      by_cases hm : m = n
      · subst hm; exact ⟨d', St.get_set_same _ _ _⟩
      · exact ⟨d1, by rw [hoth m hm]; exact h2⟩
  · have e : (if m = n then own c else E.own m c) := e
    by_cases hm : m = n
    · rw [if_pos hm] at e
      rw [hm]; exact (hown c e).2
    · rw [if_neg hm] at e; exact .inl e
  · by_cases hm : m = n
    · subst hm; exact ⟨d', St.get_set_same _ _ _⟩
    · exact ⟨d1, by rw [hoth m hm]; exact e⟩

/-- A call that was handed the thing alone, in the caller's world. -/
theorem Step.of_one {E1 : Env} {s1 : St} {w' : World} (h : Rel E s w) {n : Nat} {d d' : Hid} {b : Nat} (hd : s.get n = some (.hid d)) (hb : E.hb n = some b) (k : Step (E.one n w) (St.one d) w E1 s1 w')
    (hd' : s1.get 0 = some (.hid d')) : Step E s w (E.re n (E1.own 0)) (s.set n (.hid d')) w' := by
  refine Step.turned h hd hb (fun c hc ho => k.fr c hc (fun r base e => by cases e) (fun m e => ho e.2)) k.size k.os k.tape k.output (fun c hc => ⟨(k.rel.own 0 c hc).1, ?_⟩) fun w1 hw => ?_
  · rcases k.owns 0 c hc with h1 | h1
    · exact .inl h1.2
    · exact .inr h1
  · have h1 := k.rel.hid 0 d' b hd' (k.le.hb 0 b (show (if 0 = 0 then E.hb n else none) = some b by rw [if_pos rfl]; exact hb)) w1 hw
    rw [k.le.H] at h1
    exact h1
end

/-! ## Arguments -/
/-- an argument, for one who is handed nothing that lies somewhere -/
def convA (s : St) : AV → Option AV
  | .sl r off len es tight => match rowAt s r with
    | some o => match cutN (len * es) off o.vals with
      | some cs => bif Nat.blt 0 len && AV.plains cs then some (.lst cs len tight false) else none
      | none => none
    | none => none
  | a => bif a.plain then some a else none
def convL (s : St) : List AV → Option (List AV)
  | [] => some []
  | a :: l => match convA s a with
    | some x => match convL s l with | some q => some (x :: q) | none => none
    | none => none

section
variable {E : Env} {s : St} {w : World}
theorem convA_ok (h : Rel E s w) {E0 : Env} (hz : ∀ b o v, E.stay w b o = some v → E0.z b o = some v) {a x : AV} (hx : convA s a = some x) {v : Value} (hv : VR E a v) : VR E0 x v := by
  have plain : ∀ {a : AV} {v : Value}, VR E a v → a.plain = true → VR E0 a v := fun hv hp => VR.plain (fun b o u e => hz b o u (stay_z h e)) hv hp
  have other : ∀ {a : AV}, VR E a v → (bif a.plain then some a else none) = some x → VR E0 x v := fun {a} hv hx => by
    rcases Bool.eq_false_or_eq_true a.plain with hp | hp
    · rw [cond_of_true hp] at hx; cases hx; exact plain hv hp
    · rw [cond_of_false hp] at hx; cases hx
  cases hv with
  | sl hloc hle ht ha =>
    rename_i r b base off len es cap tight a
    simp only [convA] at hx
    split at hx
    · rename_i o ho
      split at hx
      · rename_i cs hc
        rcases Bool.eq_false_or_eq_true (Nat.blt 0 len && AV.plains cs) with hb | hb
        · rw [cond_of_true hb] at hx
          cases hx
          rw [Bool.and_eq_true] at hb
          have hl0 : 0 < len := Nat.le_of_ble_eq_true hb.1
          obtain ⟨ho1, ho2⟩ := rowAt_eq ho
          obtain ⟨c, ty, fz, g1, g2, g3, g4⟩ := h.row r o b base ho1 hloc
          obtain ⟨_, vs, k1, k2⟩ := g4 ho2
          obtain ⟨e1, e2⟩ := takeN_eq hc
          have hcs : VRL E cs ((vs.drop off).take (len * es)) := by rw [e1]; exact (k1.drop off).take _
          obtain ⟨ea, _⟩ := ha (by omega)
          subst ea
          refine .lst (VRL.plain (fun b o u e => hz b o u (stay_z h e)) hcs hb.2) hle ht rfl (fun e => by cases e) fun _ => ⟨b, base + off, rfl, fun i u hu => hz _ _ _ ?_⟩
          rw [stay_at hloc, World.cell?, g1]
          rw [List.getElem?_take] at hu
          split at hu
          · rw [List.getElem?_drop] at hu
            have := k2 _ u hu
            simpa [Nat.add_assoc] using this
          · cases hu
        · rw [cond_of_false hb] at hx; cases hx
      · cases hx
    · cases hx
  | int k n => exact other (.int k n) hx
  | bool b => exact other (.bool b) hx
  | str s => exact other (.str s) hx
  | nilp => exact other .nilp hx
  | ptr off h1 => exact other (.ptr off h1) hx
  | ptrL off h1 h2 => exact other (.ptrL off h1 h2) hx
  | lst h1 h2 h3 h4 h5 h6 => exact other (.lst h1 h2 h3 h4 h5 h6) hx
  | mpn => exact other .mpn hx
  | mp h1 => exact other (.mp h1) hx
  | hp h1 => exact other (.hp h1) hx
  | fn h1 h2 => exact other (.fn h1 h2) hx
  | nilfn => exact other .nilfn hx
  | ifc h1 => exact other (.ifc h1) hx
  | nilifc => exact other .nilifc hx
  | agg h1 => exact other (.agg h1) hx
  | tup h1 => exact other (.tup h1) hx
  | undef v => exact other (.undef v) hx

theorem convL_ok (h : Rel E s w) {E0 : Env} (hz : ∀ b o v, E.stay w b o = some v → E0.z b o = some v) : ∀ {l q : List AV}, convL s l = some q → ∀ {vs : List Value}, VRL E l vs → VRL E0 q vs
  | [], q, hq, vs, hv => by cases hq; cases hv; exact .nil
  | a :: l, q, hq, vs, hv => by
    cases hv with
    | cons h1 h2 =>
      simp only [convL] at hq
      split at hq
      · rename_i x hx
        split at hq
        · rename_i q' hq'
          cases hq
          exact .cons (convA_ok h hz hx h1) (convL_ok h hz hq' h2)
        · cases hq
      · cases hq
end

/-- A function of what is known by its meaning, and of values. -/
def hidX (F : Hid → List AV → Option (AV × Hid)) : List AV → St → Res := fun args s =>
  match args with
  | .hptr n :: rest => match s.get n with
    | some (.hid d) => match convL s rest with
      | some as => match F d as with
        | some (x, d') => .ret x (s.set n (.hid d'))
        | none => .fail
      | none => .fail
    | _ => .fail
  | _ => .fail

/-- What is handed over, and what the thing means then. -/
def Res.hid? : Res → Option (AV × Hid)
  | .ret v s => match s.get 0 with | some (.hid d) => some (v, d) | _ => none
  | _ => none

def HidOk (P : Program) (G : Glob) (f : FuncId) (F : Hid → List AV → Option (AV × Hid)) : Prop :=
  ∀ (args : List AV) (s : St) (E : Env) (w : World) (vs : List Value), Rel E s w → GlobOk E G → VRL E args vs → ResOk P E s w f vs (hidX F args s)

theorem GlobOk.one {E : Env} {s : St} {w : World} {G : Glob} (h : Rel E s w) (hp : GlobPlain G) (hG : GlobOk E G) {E0 : Env} (hz : ∀ b o v, E.stay w b o = some v → E0.z b o = some v) (hH : E0.H = E.H) : GlobOk E0 G := ⟨fun g cs hg => by
  obtain ⟨vs, h1, h2⟩ := hG.1 g cs hg
  exact ⟨vs, VRL.plain (fun b o u e => hz b o u (stay_z h e)) h1 (hp g cs hg), fun i v hi => hz _ _ _ (stay_z h (h2 i v hi))⟩, hH.trans hG.2⟩

theorem hid_known {P : Program} {G : Glob} (hm : P.follows .mixedOrders = true) (hn : NoNG P) (hp : GlobPlain G) {X : Known} (hX : KnownOk P G X) {D : Live} {m loops n : Nat} {f : FuncId} {F : Hid → List AV → Option (AV × Hid)}
    (hF : ∀ d as x d', F d as = some (x, d') → x.flat = true ∧ bodyK P G X loops n D Res.hid? m P.funcs[f]? (.hptr 0 :: as) (St.one d) = some (x, d')) : HidOk P G f F := by
  intro args s E w vs h hG ha
  unfold hidX
  split
  · rename_i k rest
    cases ha with
    | cons ha1 ha2 =>
      cases ha1 with
      | hp hb =>
        rename_i b
        split
        · rename_i d hd
          split
          · rename_i as has
            split
            · rename_i x d' hx
              obtain ⟨h2, h3⟩ := hF d as x d' hx
              have h3 := bodyK_le h3
              have hz : ∀ b o v, E.stay w b o = some v → (E.one k w).z b o = some v := fun _ _ _ e => e
              have hr := bodyD_ok (D := D) hm hn (callN_ok hm hn hX loops n) m f (.hptr 0 :: as) (St.one d) (E.one k w) w _ (h.one hd) (GlobOk.one h hp hG hz rfl)
                (.cons (.hp (b := b) (show (if 0 = 0 then E.hb k else none) = some b by rw [if_pos rfl]; exact hb)) (convL_ok h hz has ha2))
              generalize bodyD P G (callN P G X loops n) D m P.funcs[f]? (.hptr 0 :: as) (St.one d) = r at h3 hr
              cases r with
              | ret y s1 =>
                simp only [Res.hid?] at h3
                split at h3
                · rename_i d1 hd1
                  cases h3
                  rcases hr with ⟨h4, h5⟩ | ⟨v', w', E', h4, h5, h6⟩
                  · exact .inl ⟨h4, Calls.mono h5 fun e w' ⟨v', E', he, hs, hv⟩ => ⟨v', _, he, Step.of_one h hd hb hs hd1, hv.flat h2⟩⟩
                  · exact .inr ⟨v', w', _, h4, Step.of_one h hd hb h5 hd1, h6.flat h2⟩
                · cases h3
              | _ => cases h3
            · trivial
          · trivial
        · trivial
  · trivial
end Go.Am
