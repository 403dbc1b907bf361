/- A function that is run from nothing and makes a list. -/
import Derived.Test.YtlibahklbbachaaGreatDoorAmF
section
set_option autoImplicit false
namespace Go.Am

/-- The cells of a slice that is handed over. -/
def Res.list? : Res → Option AV
  | .ret (.sl r off len es tight) s => match rowAt s r with
    | some o => match cutN (len * es) off o.vals with
      | some cs => bif Nat.blt 0 len then some (.lst cs len tight false) else none
      | none => none
    | none => none
  | _ => none

theorem Step.alone_list {E E1 : Env} {s s1 : St} {w w' : World} (h0 : Rel E s w) (h : Step E.bare St.empty w E1 s1 w') {r off len es : Nat} {tight : Bool} {v : Value}
    (hv : VR E1 (.sl r off len es tight) v) {o : Row} (ho : rowAt s1 r = some o) {cs : List AV} (hc : cutN (len * es) off o.vals = some cs) (hp : AV.flats cs = true) (hl0 : 0 < len) :
    ∃ E', Step E s w E' s w' ∧ VR E' (.lst cs len tight false) v := by
  have hd := Step.alone h0 h
  obtain ⟨ho1, ho2⟩ := rowAt_eq ho
  cases hv with
  | sl hloc hle ht ha =>
    rename_i b base cap a
    obtain ⟨c, ty, fz, g1, g2, g3, g4⟩ := h.rel.row r o b base ho1 hloc
    obtain ⟨_, vs, k1, k2⟩ := g4 ho2
    obtain ⟨e1, e2⟩ := takeN_eq hc
    have hcs : VRL E1 cs ((vs.drop off).take (len * es)) := by rw [e1]; exact (k1.drop off).take _
    have hb : w.heap.size ≤ b := by
      rcases h.new r b base hloc with h1 | ⟨r0, base0, h1⟩
      · exact h1
      · cases h1
    let E' : Env := { E with z := fun b2 i => if b2 = b then w'.cell? ⟨b2, i, none⟩ else E.z b2 i }
    have hle' : E.le E' := by
      refine ⟨fun _ _ e => e, fun b2 i u e => ?_, fun _ _ _ _ => rfl, fun _ _ e => e, rfl⟩
      show (if b2 = b then _ else E.z b2 i) = some u
      have hlt := World.block_lt_of_cell? w _ (h0.z b2 i u e)
      have hlt : b2 < w.heap.size := hlt
      rw [if_neg (by omega)]
      exact e
    refine ⟨E', ⟨hle', hd.old, hd.new, ?_, hd.un, hd.next, hd.fr, hd.os, hd.tape, hd.output, hd.size, hd.owns, hd.hids⟩, ?_⟩
    · refine ⟨hd.rel.wf, hd.rel.lt, hd.rel.obj, ?_, ?_, ?_, ?_, hd.rel.iter, hd.rel.coh, hd.rel.b0, hd.rel.hid, fun n k hk => ?_, hd.rel.hlt⟩
      rotate_right
      · obtain ⟨q1, q2, q3, q4⟩ := hd.rel.own n k hk
        refine ⟨q1, q2, fun i => ?_, q4⟩
        have := (h0.own n k hk).1
        show (if k = b then _ else E.z k i) = none
        rw [if_neg (by omega)]; exact q3 i
      · intro b2 i u e
        have e : (if b2 = b then w'.cell? ⟨b2, i, none⟩ else E.z b2 i) = some u := e
        by_cases hb2 : b2 = b
        · rw [if_pos hb2] at e; exact e
        · rw [if_neg hb2] at e; exact hd.rel.z b2 i u e
      · intro b2 i u q base2 e e2
        have e : (if b2 = b then w'.cell? ⟨b2, i, none⟩ else E.z b2 i) = some u := e
        by_cases hb2 : b2 = b
        · have := (h0.lt q b2 base2 e2).2; omega
        · rw [if_neg hb2] at e; exact hd.rel.zap b2 i u q base2 e e2
      · intro q o2 b2 base2 e el
        obtain ⟨c2, ty2, fz2, m1, m2, m3, m4⟩ := hd.rel.row q o2 b2 base2 e el
        refine ⟨c2, ty2, fz2, m1, m2, m3, fun hv2 => ?_⟩
        obtain ⟨hz, us, u1, u2⟩ := m4 hv2
        exact ⟨hz, us, VRL.mono hle' u1, u2⟩
      · intro q es2 b2 base2 e el
        obtain ⟨ents, clock, m1, m2, m3⟩ := hd.rel.mapo q es2 b2 base2 e el
        exact ⟨ents, clock, m1, VRL.mono hle' m2, VRL.mono hle' m3⟩
    · obtain ⟨ea, _⟩ := ha (by omega)
      subst ea
      refine .lst (VRL.flat hcs hp) hle ht rfl (fun e => by cases e) fun _ => ⟨b, base + off, rfl, fun i u hu => ?_⟩
      show (if b = b then _ else _) = some u
      rw [if_pos rfl, World.cell?, g1]
      rw [List.getElem?_take] at hu
      split at hu
      · rw [List.getElem?_drop] at hu
        have := k2 _ u hu
        simpa [Nat.add_assoc] using this
      · cases hu

theorem list_known {P : Program} {G : Glob} (hm : P.follows .mixedOrders = true) (hn : NoNG P) (hp : GlobPlain G) {X : Known} (hX : KnownOk P G X) {D : Live} {m loops n : Nat} {f : FuncId} {F : List AV → Option AV}
    (hF : ∀ args x, F args = some x → AV.plains args = true ∧ (∃ cs len tight, x = .lst cs len tight false ∧ AV.flats cs = true) ∧ bodyK P G X loops n D Res.list? m P.funcs[f]? args St.empty = some x) :
    ∀ (args : List AV) (s : St) (E : Env) (w : World) (vs : List Value), Rel E s w → GlobOk E G w → VRL E args vs → ResOk P E s w f vs (pureX F args s) := by
  intro args s E w vs h hG ha
  unfold pureX
  cases hx : F args with
  | none => trivial
  | some x =>
    obtain ⟨h1, ⟨cs, len, tight, rfl, h2⟩, h3⟩ := hF args x hx
    have h3 := bodyK_le h3
    have := bodyD_ok (D := D) hm hn (callN_ok hm hn hX loops n) m f args St.empty E.bare w vs h.bare (hG.bare hp) (VRL.plain (E := E.bare) (E1 := E) (fun _ _ _ e => e) ha h1)
    generalize bodyD P G (callN P G X loops n) D m P.funcs[f]? args St.empty = r at h3 this
    unfold Res.list? at h3
    split at h3
    · rename_i r off len' es tight' s1
      split at h3
      · rename_i o ho
        split at h3
        · rename_i cs' hc
          rcases Bool.eq_false_or_eq_true (Nat.blt 0 len') with hb | hb
          · rw [cond_of_true hb] at h3
            cases h3
            have hl0 : 0 < len := Nat.le_of_ble_eq_true hb
            rcases this with ⟨h4, h5⟩ | ⟨v', w', E', h4, h5, h6⟩
            · refine .inl ⟨h4, Calls.mono h5 fun e w' ⟨v', E', he, hs, hv⟩ => ?_⟩
              obtain ⟨E2, k1, k2⟩ := Step.alone_list h hs hv ho hc h2 hl0
              exact ⟨v', E2, he, k1, k2⟩
            · obtain ⟨E2, k1, k2⟩ := Step.alone_list h h5 h6 ho hc h2 hl0
              exact .inr ⟨v', w', E2, h4, k1, k2⟩
          · rw [cond_of_false hb] at h3; cases h3
        · cases h3
      · cases h3
    · cases h3

/-- What is known of a function of values. -/
def PureOk (P : Program) (G : Glob) (f : FuncId) (F : List AV → Option AV) : Prop :=
  ∀ (args : List AV) (s : St) (E : Env) (w : World) (vs : List Value), Rel E s w → GlobOk E G w → VRL E args vs → ResOk P E s w f vs (pureX F args s)

def Known.none : Known := fun _ => .none
def Known.add (X : Known) (f : FuncId) (h : List AV → St → Res) : Known := fun g => bif Nat.beq g f then some h else X g

theorem KnownOk.none (P : Program) (G : Glob) : KnownOk P G .none := fun _ _ h => by cases h

theorem KnownOk.add {P : Program} {G : Glob} {X : Known} (hX : KnownOk P G X) {f : FuncId} {h : List AV → St → Res}
    (hf : ∀ (args : List AV) (s : St) (E : Env) (w : World) (vs : List Value), Rel E s w → GlobOk E G w → VRL E args vs → ResOk P E s w f vs (h args s)) : KnownOk P G (X.add f h) := by
  intro g k hk
  unfold Known.add at hk
  rcases Bool.eq_false_or_eq_true (Nat.beq g f) with hb | hb
  · rw [cond_of_true hb] at hk
    cases hk
    have := Nat.eq_of_beq_eq_true hb
    subst this
    exact hf
  · rw [cond_of_false hb] at hk
    exact hX g k hk

/-! ## The first loop of a code, and what is done behind it -/
def loopOf : Code → Nat → Option (Nat × Code)
  | .seq a b, i => match loopOf a i with | some r => some r | none => loopOf b i
  | .block id c, _ => loopOf c id
  | .loop c, i => some (i, c)
  | _, _ => none

section
variable {β : Type} (P : Program) (G : Glob) (X : Known) (loops n : Nat) (D : Live)
/-- what is done behind the first loop -/
def afterK (m : Nat) : Code → Nat → KA β → Option (KA β)
  | .seq a b, i, k => match afterK m a i fun o t s => match o with | .normal => execK P G (callN P G X loops n) (callK P G X loops n) D none m b i k t s | o => k o t s with
    | some k' => some k'
    | none => afterK m b i k
  | .block id c, _, k => afterK m c id fun o t s => match o with | .exit j => bif j.beq id then k .normal t s else k (.exit j) t s | o => k o t s
  | .loop _, _, k => some k
  | _, _, _ => none

def bodyOf (f : FuncId) : Code := match P.funcs[f]? with | some fn => (match fn.body with | some c => c | none => .skip) | none => .skip
/-- the body of the first loop of a function -/
def loopBody (m : Nat) (f : FuncId) : KA β → T → St → Option β :=
  match loopOf (bodyOf P f) 0 with | some (i, c) => execK P G (callN P G X loops n) (callK P G X loops n) D none m c i | none => fun _ _ _ => none
/-- what is done behind a function's first loop -/
def loopEnd (kr : Res → Option β) (m : Nat) (f : FuncId) : KA β :=
  match P.funcs[f]? with
  | some fn => (match fn.body with
    | some c => (match afterK P G X loops n D m c 0 (fun o t s => kr (finC P fn.results.toList (callB P G (callN P G X loops n) m) (.mk o t s))) with | some k => k | none => fun _ _ _ => none)
    | none => fun _ _ _ => none)
  | none => fun _ _ _ => none
end

/-- slots with what is in them -/
def slots : List (Nat × AV) → Tr AV → Tr AV
  | [], tr => tr
  | (i, v) :: l, tr => slots l (tr.setP v (pathOf i))
end Go.Am
end
section
set_option autoImplicit false
namespace Go.Am

def St.one (d : Hid) : St := St.empty.push (.hid d)

theorem one_get (d : Hid) (r : Nat) : (St.one d).get r = if 0 = r then some (.hid d) else none := by
  unfold St.one
  rw [St.get_push, St.get_empty]
  rfl
theorem one_next (d : Hid) : (St.one d).next = 1 := rfl

open Classical in
/-- What stays, for one who is handed nothing that lies somewhere. -/
noncomputable def Env.stay (E : Env) (w : World) : Nat → Nat → Option Value := fun b o => if ∃ r base, E.loc r = some (b, base) then w.cell? ⟨b, o, .none⟩ else E.z b o

noncomputable def Env.one (E : Env) (n : Nat) (w : World) : Env :=
  { loc := fun _ => .none, z := E.stay w, bsz := E.bsz, hb := fun m => if m = 0 then E.hb n else .none, own := fun m c => m = 0 ∧ E.own n c, H := E.H }

section
variable {E : Env} {s : St} {w : World}

theorem stay_at {b base r : Nat} (h : E.loc r = some (b, base)) (o : Nat) : E.stay w b o = w.cell? ⟨b, o, none⟩ := by
  unfold Env.stay; rw [if_pos ⟨r, base, h⟩]
theorem stay_not {b : Nat} (h : ∀ r base, E.loc r ≠ some (b, base)) (o : Nat) : E.stay w b o = E.z b o := by
  unfold Env.stay; rw [if_neg (fun ⟨r, base, e⟩ => h r base e)]
theorem stay_cell (h : Rel E s w) {b o : Nat} {v : Value} (e : E.stay w b o = some v) : w.cell? ⟨b, o, none⟩ = some v := by
  unfold Env.stay at e
  split at e
  · exact e
  · exact h.z b o v e
theorem stay_z (h : Rel E s w) {b o : Nat} {v : Value} (e : E.z b o = some v) : E.stay w b o = some v := by
  rw [stay_not (fun r base e2 => h.zap b o v r base e e2)]; exact e
theorem stay_own (h : Rel E s w) {n c : Nat} (hc : E.own n c) (o : Nat) : E.stay w c o = none := by
  rw [stay_not (h.own n c hc).2.1]; exact (h.own n c hc).2.2.1 o

theorem Rel.one (h : Rel E s w) {n : Nat} {d : Hid} (hd : s.get n = some (.hid d)) : Rel (E.one n w) (St.one d) w where
  wf := Wf.empty.push_other _ (by intro o; simp)
  lt r b base e := by cases e
  obj r p e := by cases e
  z b o v e := stay_cell h e
  zap b o v r base _ e := by cases e
  row r o b base _ e := by cases e
  mapo r es b base _ e := by cases e
  iter r x n b base _ e := by cases e
  coh r1 r2 b b1 b2 e := by cases e
  b0 r o b base _ e := by cases e
  hid m d1 b1 e eb w1 hw := by
    rw [one_get] at e
    split at e
    · rename_i h0
      subst h0
      cases e
      have hbe : (E.one n w).hb 0 = E.hb n := by show (if (0 : Nat) = 0 then E.hb n else .none) = E.hb n; rw [if_pos rfl]
      rw [hbe] at eb
      have := h.hid n d b1 hd eb w1 fun c hc => hw c ⟨rfl, hc⟩
      have e2 : (E.one n w).own 0 = E.own n := by funext c; exact propext ⟨fun x => x.2, fun x => ⟨rfl, x⟩⟩
      rw [e2]; exact this
    · cases e
  own m c e := ⟨(h.own n c e.2).1, fun r base e => (by cases e), stay_own h e.2, fun m' e' => e'.1.trans e.1.symm⟩
  hlt m b1 e := by
    have e : (if m = 0 then E.hb n else none) = some b1 := e
    by_cases hm : m = 0
    · subst hm; exact ⟨by rw [one_next]; omega, d, by rw [one_get, if_pos rfl]⟩
    · rw [if_neg hm] at e; cases e

theorem Wf.set_hid {n : Nat} {d d' : Hid} (h : Wf s) (hd : s.get n = some (.hid d)) : Wf (s.set n (.hid d')) ∧ (∀ r o, (s.set n (.hid d')).get r = some (.row o) ↔ s.get r = some (.row o)) ∧
    (∀ r o, s.get r = some (.row o) → valid (s.set n (.hid d')) o = valid s o) := by
  have hrow : ∀ r o, (s.set n (.hid d')).get r = some (.row o) ↔ s.get r = some (.row o) := fun r o => by
    by_cases hr : r = n
    · subst hr; rw [St.get_set_same, hd]; constructor <;> intro e <;> cases e
    · rw [St.get_set_ne _ _ (fun e => hr e.symm)]
  have hroot : ∀ r o, s.get r = some (.row o) → (s.set n (.hid d')).get o.root = s.get o.root := fun r o e => by
    obtain ⟨q, g1, _⟩ := h.root r o e
    rw [g1]; exact (hrow _ _).2 g1
  have hval : ∀ r o, s.get r = some (.row o) → valid (s.set n (.hid d')) o = valid s o := fun r o e => valid_congr (hroot r o e)
  refine ⟨⟨fun r hr => ?_, fun r o e => ?_, fun r o e hs => ?_, fun r o e => h.rle r o ((hrow r o).1 e)⟩, hrow, hval⟩
  · have hlt := h.lt hd
    have hr : s.next ≤ r := hr
    rw [St.get_set_ne _ _ (by omega)]; exact h.fresh r hr
  · have e := (hrow r o).1 e
    obtain ⟨q, g1, g2, g3, g4⟩ := h.root r o e
    exact ⟨q, by rw [hroot r o e]; exact g1, g2, g3, fun hv => g4 (by rw [← hval r o e]; exact hv)⟩
  · obtain ⟨k1, k2⟩ := h.solo r o ((hrow r o).1 e) hs
    exact ⟨k1, fun r2 o2 e2 h2 => k2 r2 o2 ((hrow r2 o2).1 e2) h2⟩

/-- Where the thing's own blocks are now. -/
def Env.re (E : Env) (n : Nat) (own : Nat → Prop) : Env := { E with own := fun m c => if m = n then own c else E.own m c }

/-- What is known by its meaning has turned, and its own blocks alone. -/
theorem Step.turned {w' : World} (h : Rel E s w) {n : Nat} {d d' : Hid} {b : Nat} (hd : s.get n = some (.hid d)) (hb : E.hb n = some b) {own : Nat → Prop}
    (hold : ∀ c, c < w.heap.size → ¬ E.own n c → w'.heap[c]? = w.heap[c]?) (hsz : w.heap.size ≤ w'.heap.size) (hos : w'.os = w.os) (htp : w'.tape = w.tape) (hout : w'.output = w.output)
    (hown : ∀ c, own c → c < w'.heap.size ∧ (E.own n c ∨ w.heap.size ≤ c)) (hH : ∀ w1 : World, (∀ c, own c → w1.heap[c]? = w'.heap[c]?) → E.H d' b own w1) :
    Step E s w (E.re n own) (s.set n (.hid d')) w' := by
  obtain ⟨hwf, hrow, hval⟩ := h.wf.set_hid (d' := d') hd
  have hne : ∀ c, c < w.heap.size → ∀ r base, E.loc r = some (c, base) → w'.heap[c]? = w.heap[c]? := fun c hc r base e => hold c hc fun ho => (h.own n c ho).2.1 r base e
  have hoth : ∀ r, r ≠ n → (s.set n (.hid d')).get r = s.get r := fun r hr => St.get_set_ne _ _ (fun e => hr e.symm)
  have hle : E.le (E.re n own) := ⟨fun _ _ e => e, fun _ _ _ e => e, fun _ _ _ _ => rfl, fun _ _ e => e, rfl⟩
  have hloc : ∀ r base c, E.loc r = some (c, base) → own c → False := fun r base c e ho => by
    rcases (hown c ho).2 with h1 | h1
    · exact (h.own n c h1).2.1 r base e
    · have := (h.lt r c base e).2; omega
  refine ⟨hle, fun _ _ => rfl, fun r c base e => .inr ⟨r, base, e⟩, ?_, fun r _ _ _ hh => hoth r (fun e => by subst e; exact hh d hd), Nat.le_refl _, fun c hc _ ho => hold c hc (ho n), hos, htp, hout, hsz, fun m c e => ?_, fun m d1 e => ?_⟩
  · refine ⟨hwf, fun r c base e => ⟨(h.lt r c base e).1, Nat.lt_of_lt_of_le (h.lt r c base e).2 hsz⟩, fun r p e => ?_, fun c o v e => ?_, h.zap, fun r o c base e el => ?_, fun r es c base e el => ?_, fun r x k c base e el => ?_,
      fun r1 r2 c b1 b2 e1 e2 => ?_, fun r o c base e el hq => h.b0 r o c base ((hrow r o).1 e) el hq, fun m d1 b1 e eb w1 hw => ?_, fun m c e => ?_, fun m b1 e => ?_⟩
    · by_cases hr : r = n
      · subst hr; exact ⟨_, St.get_set_same _ _ _⟩
      · rw [hoth r hr]; exact h.obj r p e
    · have e : E.z c o = some v := e
      have h1 := h.z c o v e
      have hlt := World.block_lt_of_cell? w _ h1
      exact (World.cell?_of_block (w := w) (hold c hlt fun ho => by rw [(h.own n c ho).2.2.1 o] at e; cases e)).trans h1
    · have e := (hrow r o).1 e
      obtain ⟨c', ty, fz, g1, g2, g3, g4⟩ := h.row r o c base e el
      refine ⟨c', ty, fz, (hne c (h.lt r c base el).2 r base el).trans g1, g2, g3, fun hv => ?_⟩
      obtain ⟨hz, vs, k1, k2⟩ := g4 (by rw [← hval r o e]; exact hv)
      exact ⟨hz, vs, VRL.mono hle k1, k2⟩
    · have hr : r ≠ n := fun e2 => by subst e2; rw [St.get_set_same] at e; cases e
      rw [hoth r hr] at e
      obtain ⟨ents, clock, g1, g2, g3⟩ := h.mapo r es c base e el
      exact ⟨ents, clock, (hne c (h.lt r c base el).2 r base el).trans g1, VRL.mono hle g2, VRL.mono hle g3⟩
    · have hr : r ≠ n := fun e2 => by subst e2; rw [St.get_set_same] at e; cases e
      rw [hoth r hr] at e
      exact h.iter r x k c base e el
    · rcases h.coh r1 r2 c b1 b2 e1 e2 with h3 | ⟨o1, o2, k1, k2, k3, k4⟩
      · exact .inl h3
      · exact .inr ⟨o1, o2, (hrow r1 o1).2 k1, (hrow r2 o2).2 k2, k3, k4⟩
    · by_cases hm : m = n
      · subst hm
        rw [St.get_set_same] at e
        cases e
        have eb : E.hb m = some b1 := eb
        rw [hb] at eb; cases eb
        have e2 : (E.re m own).own m = own := by funext c; exact if_pos rfl
        rw [e2] at hw ⊢
        exact hH w1 hw
      · rw [hoth m hm] at e
        have e2 : (E.re n own).own m = E.own m := by funext c; exact if_neg hm
        rw [e2] at hw ⊢
        refine h.hid m d1 b1 e eb w1 fun c hc => (hw c hc).trans (hold c (h.own m c hc).1 fun ho => hm ((h.own n c ho).2.2.2 m hc))
    · have e : (if m = n then own c else E.own m c) := e
      have key : ∀ m', (if m' = n then own c else E.own m' c) → (c < w'.heap.size ∧ (E.own m' c ∨ m' = n ∧ w.heap.size ≤ c)) := fun m' e' => by
        by_cases hm' : m' = n
        · rw [if_pos hm'] at e'
          obtain ⟨q1, q2⟩ := hown c e'
          rcases q2 with q2 | q2
          · exact ⟨q1, .inl (by rw [hm']; exact q2)⟩
          · exact ⟨q1, .inr ⟨hm', q2⟩⟩
        · rw [if_neg hm'] at e'
          exact ⟨Nat.lt_of_lt_of_le (h.own m' c e').1 hsz, .inl e'⟩
      obtain ⟨q1, q2⟩ := key m e
      refine ⟨q1, fun r base el => ?_, fun o => ?_, fun m' e' => ?_⟩
      · have el : E.loc r = some (c, base) := el
        rcases q2 with q2 | ⟨_, q2⟩
        · exact (h.own m c q2).2.1 r base el
        · have := (h.lt r c base el).2; omega
      · show E.z c o = none
        rcases q2 with q2 | ⟨_, q2⟩
        · exact (h.own m c q2).2.2.1 o
        · cases hz : E.z c o with
          | none => rfl
          | some v => have := World.block_lt_of_cell? w _ (h.z c o v hz); simp at this; omega
      · obtain ⟨_, p2⟩ := key m' e'
        rcases q2 with q2 | ⟨q2, q3⟩ <;> rcases p2 with p2 | ⟨p2, p3⟩
        · exact (h.own m c q2).2.2.2 m' p2
        · have := (h.own m c q2).1; omega
        · have := (h.own m' c p2).1; omega
        · rw [p2, q2]
    · obtain ⟨h1, d1, h2⟩ := h.hlt m b1 e
      refine ⟨h1, ?_⟩
      by_cases hm : m = n
      · subst hm; exact ⟨d', St.get_set_same _ _ _⟩
      · exact ⟨d1, by rw [hoth m hm]; exact h2⟩
  · have e : (if m = n then own c else E.own m c) := e
    by_cases hm : m = n
    · rw [if_pos hm] at e
      rw [hm]; exact (hown c e).2
    · rw [if_neg hm] at e; exact .inl e
  · by_cases hm : m = n
    · subst hm; exact ⟨d', St.get_set_same _ _ _⟩
    · exact ⟨d1, by rw [hoth m hm]; exact e⟩

/-- A call that was handed the thing alone, in the caller's world. -/
theorem Step.of_one {E1 : Env} {s1 : St} {w' : World} (h : Rel E s w) {n : Nat} {d d' : Hid} {b : Nat} (hd : s.get n = some (.hid d)) (hb : E.hb n = some b) (k : Step (E.one n w) (St.one d) w E1 s1 w')
    (hd' : s1.get 0 = some (.hid d')) : Step E s w (E.re n (E1.own 0)) (s.set n (.hid d')) w' := by
  refine Step.turned h hd hb (fun c hc ho => k.fr c hc (fun r base e => by cases e) (fun m e => ho e.2)) k.size k.os k.tape k.output (fun c hc => ⟨(k.rel.own 0 c hc).1, ?_⟩) fun w1 hw => ?_
  · rcases k.owns 0 c hc with h1 | h1
    · exact .inl h1.2
    · exact .inr h1
  · have h1 := k.rel.hid 0 d' b hd' (k.le.hb 0 b (show (if 0 = 0 then E.hb n else none) = some b by rw [if_pos rfl]; exact hb)) w1 hw
    rw [k.le.H] at h1
    exact h1
end

/-! ## Arguments -/
/-- an argument, for one who is handed nothing that lies somewhere -/
def convA (s : St) : AV → Option AV
  | .sl r off len es tight => match rowAt s r with
    | some o => match cutN (len * es) off o.vals with
      | some cs => bif Nat.blt 0 len && AV.plains cs then some (.lst cs len tight false) else none
      | none => none
    | none => none
  | a => bif a.plain then some a else none
def convL (s : St) : List AV → Option (List AV)
  | [] => some []
  | a :: l => match convA s a with
    | some x => match convL s l with | some q => some (x :: q) | none => none
    | none => none

section
variable {E : Env} {s : St} {w : World}
theorem convA_ok (h : Rel E s w) {E0 : Env} (hz : ∀ b o v, E.stay w b o = some v → E0.z b o = some v) {a x : AV} (hx : convA s a = some x) {v : Value} (hv : VR E a v) : VR E0 x v := by
  have plain : ∀ {a : AV} {v : Value}, VR E a v → a.plain = true → VR E0 a v := fun hv hp => VR.plain (fun b o u e => hz b o u (stay_z h e)) hv hp
  have other : ∀ {a : AV}, VR E a v → (bif a.plain then some a else none) = some x → VR E0 x v := fun {a} hv hx => by
    rcases Bool.eq_false_or_eq_true a.plain with hp | hp
    · rw [cond_of_true hp] at hx; cases hx; exact plain hv hp
    · rw [cond_of_false hp] at hx; cases hx
  cases hv with
  | sl hloc hle ht ha =>
    rename_i r b base off len es cap tight a
    simp only [convA] at hx
    split at hx
    · rename_i o ho
      split at hx
      · rename_i cs hc
        rcases Bool.eq_false_or_eq_true (Nat.blt 0 len && AV.plains cs) with hb | hb
        · rw [cond_of_true hb] at hx
          cases hx
          rw [Bool.and_eq_true] at hb
          have hl0 : 0 < len := Nat.le_of_ble_eq_true hb.1
          obtain ⟨ho1, ho2⟩ := rowAt_eq ho
          obtain ⟨c, ty, fz, g1, g2, g3, g4⟩ := h.row r o b base ho1 hloc
          obtain ⟨_, vs, k1, k2⟩ := g4 ho2
          obtain ⟨e1, e2⟩ := takeN_eq hc
          have hcs : VRL E cs ((vs.drop off).take (len * es)) := by rw [e1]; exact (k1.drop off).take _
          obtain ⟨ea, _⟩ := ha (by omega)
          subst ea
          refine .lst (VRL.plain (fun b o u e => hz b o u (stay_z h e)) hcs hb.2) hle ht rfl (fun e => by cases e) fun _ => ⟨b, base + off, rfl, fun i u hu => hz _ _ _ ?_⟩
          rw [stay_at hloc, World.cell?, g1]
          rw [List.getElem?_take] at hu
          split at hu
          · rw [List.getElem?_drop] at hu
            have := k2 _ u hu
            simpa [Nat.add_assoc] using this
          · cases hu
        · rw [cond_of_false hb] at hx; cases hx
      · cases hx
    · cases hx
  | int k n => exact other (.int k n) hx
  | bool b => exact other (.bool b) hx
  | str s => exact other (.str s) hx
  | nilp => exact other .nilp hx
  | ptr off h1 => exact other (.ptr off h1) hx
  | ptrL off h1 h2 => exact other (.ptrL off h1 h2) hx
  | lst h1 h2 h3 h4 h5 h6 => exact other (.lst h1 h2 h3 h4 h5 h6) hx
  | mpn => exact other .mpn hx
  | mp h1 => exact other (.mp h1) hx
  | hp h1 => exact other (.hp h1) hx
  | fn h1 h2 => exact other (.fn h1 h2) hx
  | nilfn => exact other .nilfn hx
  | ifc h1 => exact other (.ifc h1) hx
  | nilifc => exact other .nilifc hx
  | agg h1 => exact other (.agg h1) hx
  | tup h1 => exact other (.tup h1) hx
  | lit v h1 => exact other (.lit v h1) hx
  | undef v => exact other (.undef v) hx

theorem convL_ok (h : Rel E s w) {E0 : Env} (hz : ∀ b o v, E.stay w b o = some v → E0.z b o = some v) : ∀ {l q : List AV}, convL s l = some q → ∀ {vs : List Value}, VRL E l vs → VRL E0 q vs
  | [], q, hq, vs, hv => by cases hq; cases hv; exact .nil
  | a :: l, q, hq, vs, hv => by
    cases hv with
    | cons h1 h2 =>
      simp only [convL] at hq
      split at hq
      · rename_i x hx
        split at hq
        · rename_i q' hq'
          cases hq
          exact .cons (convA_ok h hz hx h1) (convL_ok h hz hq' h2)
        · cases hq
      · cases hq
end

/-- A function of what is known by its meaning, and of values. -/
def hidX (F : Hid → List AV → Option (AV × Hid)) : List AV → St → Res := fun args s =>
  match args with
  | .hptr n :: rest => match s.get n with
    | some (.hid d) => match convL s rest with
      | some as => match F d as with
        | some (x, d') => .ret x (s.set n (.hid d'))
        | none => .fail
      | none => .fail
    | _ => .fail
  | _ => .fail

/-- What is handed over, and what the thing means then. -/
def Res.hid? : Res → Option (AV × Hid)
  | .ret v s => match s.get 0 with | some (.hid d) => some (v, d) | _ => none
  | _ => none

def HidOk (P : Program) (G : Glob) (f : FuncId) (F : Hid → List AV → Option (AV × Hid)) : Prop :=
  ∀ (args : List AV) (s : St) (E : Env) (w : World) (vs : List Value), Rel E s w → GlobOk E G w → VRL E args vs → ResOk P E s w f vs (hidX F args s)

theorem GlobOk.one {E : Env} {s : St} {w : World} {G : Glob} (h : Rel E s w) (hp : GlobPlain G) (hG : GlobOk E G w) {E0 : Env} (hz : ∀ b o v, E.stay w b o = some v → E0.z b o = some v) (hH : E0.H = E.H) : GlobOk E0 G w := ⟨⟨fun g cs hg => by
  obtain ⟨vs, h1, h2⟩ := hG.1.1 g cs hg
  exact ⟨vs, VRL.plain (fun b o u e => hz b o u (stay_z h e)) h1 (hp g cs hg), fun i v hi => hz _ _ _ (stay_z h (h2 i v hi))⟩, fun g n hg => by
  obtain ⟨⟨v, hv⟩, h1⟩ := hG.1.2 g n hg
  exact ⟨⟨v, hz _ _ _ (stay_z h hv)⟩, h1⟩⟩, hH.trans hG.2⟩

theorem hid_known {P : Program} {G : Glob} (hm : P.follows .mixedOrders = true) (hn : NoNG P) (hp : GlobPlain G) {X : Known} (hX : KnownOk P G X) {D : Live} {m loops n : Nat} {f : FuncId} {F : Hid → List AV → Option (AV × Hid)}
    (hF : ∀ d as x d', F d as = some (x, d') → x.flat = true ∧ bodyK P G X loops n D Res.hid? m P.funcs[f]? (.hptr 0 :: as) (St.one d) = some (x, d')) : HidOk P G f F := by
  intro args s E w vs h hG ha
  unfold hidX
  split
  · rename_i k rest
    cases ha with
    | cons ha1 ha2 =>
      cases ha1 with
      | hp hb =>
        rename_i b
        split
        · rename_i d hd
          split
          · rename_i as has
            split
            · rename_i x d' hx
              obtain ⟨h2, h3⟩ := hF d as x d' hx
              have h3 := bodyK_le h3
              have hz : ∀ b o v, E.stay w b o = some v → (E.one k w).z b o = some v := fun _ _ _ e => e
              have hr := bodyD_ok (D := D) hm hn (callN_ok hm hn hX loops n) m f (.hptr 0 :: as) (St.one d) (E.one k w) w _ (h.one hd) (GlobOk.one h hp hG hz rfl)
                (.cons (.hp (b := b) (show (if 0 = 0 then E.hb k else none) = some b by rw [if_pos rfl]; exact hb)) (convL_ok h hz has ha2))
              generalize bodyD P G (callN P G X loops n) D m P.funcs[f]? (.hptr 0 :: as) (St.one d) = r at h3 hr
              cases r with
              | ret y s1 =>
                simp only [Res.hid?] at h3
                split at h3
                · rename_i d1 hd1
                  cases h3
                  rcases hr with ⟨h4, h5⟩ | ⟨v', w', E', h4, h5, h6⟩
                  · exact .inl ⟨h4, Calls.mono h5 fun e w' ⟨v', E', he, hs, hv⟩ => ⟨v', _, he, Step.of_one h hd hb hs hd1, hv.flat h2⟩⟩
                  · exact .inr ⟨v', w', _, h4, Step.of_one h hd hb h5 hd1, h6.flat h2⟩
                · cases h3
              | _ => cases h3
            · trivial
          · trivial
        · trivial
  · trivial
end Go.Am
end
section
set_option autoImplicit false
namespace Go.Am

mutual
/-- it leads to rows of a set alone -/
def AV.inN (N : Nat → Prop) : AV → Prop
  | .ptr r _ | .sl r _ _ _ _ | .mp (some r) => N r
  | .hptr _ | .ptrL _ _ | .lst (_ :: _) _ _ _ => False
  | .agg l | .tup l => AV.insN N l
  | .fn _ a b => AV.insN N a ∧ AV.insN N b
  | .ifc _ v => AV.inN N v
  | _ => True
def AV.insN (N : Nat → Prop) : List AV → Prop
  | [] => True
  | a :: l => AV.inN N a ∧ AV.insN N l
end

mutual
theorem VR.inN {E E1 : Env} {N : Nat → Prop} (hl : ∀ r p, N r → E1.loc r = some p → E.loc r = some p) (hb : E.bsz = E1.bsz) : ∀ {a : AV} {v : Value}, VR E1 a v → a.inN N → VR E a v
  | _, _, .int k n, _ => .int k n
  | _, _, .bool b, _ => .bool b
  | _, _, .str s, _ => .str s
  | _, _, .nilp, _ => .nilp
  | _, _, .ptr off h, p => .ptr off (hl _ _ (by simpa [AV.inN] using p) h)
  | _, _, .ptrL _ _ _, p => by simp [AV.inN] at p
  | _, _, .sl h h1 h2 h3, p => .sl (hl _ _ (by simpa [AV.inN] using p) h) h1 h2 (by rw [hb]; exact h3)
  | _, _, .lst .nil h1 h2 h3 h4 _, _ => .lst .nil h1 h2 h3 h4 (fun h => absurd rfl h)
  | _, _, .lst (.cons _ _) _ _ _ _ _, p => by simp [AV.inN] at p
  | _, _, .mpn, _ => .mpn
  | _, _, .mp h, p => .mp (hl _ _ (by simpa [AV.inN] using p) h)
  | _, _, .hp _, p => by simp [AV.inN] at p
  | _, _, .fn a b, p => by
    simp [AV.inN] at p
    exact .fn (VRL.inN hl hb a p.1) (VRL.inN hl hb b p.2)
  | _, _, .nilfn, _ => .nilfn
  | _, _, .ifc h, p => .ifc (VR.inN hl hb h (by simpa [AV.inN] using p))
  | _, _, .nilifc, _ => .nilifc
  | _, _, .agg h, p => .agg (VRL.inN hl hb h (by simpa [AV.inN] using p))
  | _, _, .tup h, p => .tup (VRL.inN hl hb h (by simpa [AV.inN] using p))
  | _, _, .lit v h, _ => .lit v h
  | _, _, .undef v, _ => .undef v
theorem VRL.inN {E E1 : Env} {N : Nat → Prop} (hl : ∀ r p, N r → E1.loc r = some p → E.loc r = some p) (hb : E.bsz = E1.bsz) : ∀ {l : List AV} {r : List Value}, VRL E1 l r → AV.insN N l → VRL E l r
  | _, _, .nil, _ => .nil
  | _, _, .cons h t, p => by
    simp [AV.insN] at p
    exact .cons (VR.inN hl hb h p.1) (VRL.inN hl hb t p.2)
end

/-- A set of rows and maps that lead to one another alone. -/
def Sealed (s : St) (N : Nat → Prop) : Prop :=
  (∀ r o, N r → s.get r = some (.row o) → valid s o = true → AV.insN N o.vals) ∧
    (∀ r es, N r → s.get r = some (.mapo es) → AV.insN N (es.map (·.1)) ∧ AV.insN N (es.map (·.2))) ∧ ∀ r d, N r → s.get r ≠ some (.hid d)

/-- A thing lies somewhere, in blocks of its own, and a state of the second meaning tells how. -/
def Conc (R : Hid → St → (Nat → Prop) → Nat → Prop) (d : Hid) (b : Nat) (own : Nat → Prop) (w : World) : Prop :=
  ∃ (E1 : Env) (s1 : St) (N : Nat → Prop) (r0 : Nat), R d s1 N r0 ∧ N r0 ∧ E1.loc r0 = some (b, 0) ∧ (∀ r c base, E1.loc r = some (c, base) → N r ∧ own c) ∧ Rel E1 s1 w ∧ Sealed s1 N ∧
    (∀ n c, ¬ E1.own n c) ∧ (∀ n, E1.hb n = none) ∧ ∀ c o, E1.z c o = none

/-- What is left of a place where all lay, for the rows of a set. -/
noncomputable def Env.only (E : Env) (N : Nat → Prop) : Env :=
  open Classical in { loc := fun r => if N r then E.loc r else .none, z := fun _ _ => .none, bsz := E.bsz, hb := fun _ => .none, own := fun _ _ => False, H := E.H }

mutual
/-- Cells that stay may be more. -/
theorem VR.reH {E : Env} {z : Nat → Nat → Option Value} {H : Hid → Nat → (Nat → Prop) → World → Prop} (hz : ∀ b o v, E.z b o = some v → z b o = some v) : ∀ {a : AV} {v : Value}, VR E a v → VR { E with z := z, H := H } a v
  | _, _, .int k n => .int k n
  | _, _, .bool b => .bool b
  | _, _, .str s => .str s
  | _, _, .nilp => .nilp
  | _, _, .ptr off h => .ptr off h
  | _, _, .ptrL off h k => .ptrL off (VRL.reH hz h) (fun i v e => hz _ _ _ (k i v e))
  | _, _, .sl h h1 h2 h3 => .sl h h1 h2 h3
  | _, _, .lst h h1 h2 h3 h4 k => .lst (VRL.reH hz h) h1 h2 h3 h4 (fun hv => let ⟨b, base, ea, hb⟩ := k hv; ⟨b, base, ea, fun i v e => hz _ _ _ (hb i v e)⟩)
  | _, _, .mpn => .mpn
  | _, _, .mp h => .mp h
  | _, _, .hp h => .hp h
  | _, _, .fn a b => .fn (VRL.reH hz a) (VRL.reH hz b)
  | _, _, .nilfn => .nilfn
  | _, _, .ifc h => .ifc (VR.reH hz h)
  | _, _, .nilifc => .nilifc
  | _, _, .agg h => .agg (VRL.reH hz h)
  | _, _, .tup h => .tup (VRL.reH hz h)
  | _, _, .lit v h => .lit v h
  | _, _, .undef v => .undef v
theorem VRL.reH {E : Env} {z : Nat → Nat → Option Value} {H : Hid → Nat → (Nat → Prop) → World → Prop} (hz : ∀ b o v, E.z b o = some v → z b o = some v) : ∀ {l : List AV} {r : List Value}, VRL E l r → VRL { E with z := z, H := H } l r
  | _, _, .nil => .nil
  | _, _, .cons h t => .cons (VR.reH hz h) (VRL.reH hz t)
end

section
variable {E : Env} {s : St} {w : World}

theorem only_loc {N : Nat → Prop} {r : Nat} {p : Nat × Nat} (h : (E.only N).loc r = some p) : N r ∧ E.loc r = some p := by
  unfold Env.only at h
  simp only at h
  split at h
  · exact ⟨by assumption, h⟩
  · cases h
theorem only_in {N : Nat → Prop} {r : Nat} (h : N r) : (E.only N).loc r = E.loc r := by unfold Env.only; simp only; rw [if_pos h]

/-- In whatever world holds the blocks as they are. -/
theorem Rel.only (h : Rel E s w) {N : Nat → Prop} (hc : Sealed s N) {w1 : World} (hw : ∀ r c base, N r → E.loc r = some (c, base) → w1.heap[c]? = w.heap[c]?) : Rel (E.only N) s w1 where
  wf := h.wf
  lt r b base e := by
    obtain ⟨n1, n2⟩ := only_loc e
    have := h.lt r b base n2
    refine ⟨this.1, ?_⟩
    rcases Nat.lt_or_ge b w1.heap.size with h1 | h1
    · exact h1
    · have h2 := hw r b base n1 n2
      rw [Array.getElem?_eq_none h1, Array.getElem?_eq_getElem this.2] at h2
      cases h2
  obj r p e := h.obj r p (only_loc e).2
  z b o v e := by cases e
  zap b o v r base e := by cases e
  row r o b base e el := by
    obtain ⟨n1, n2⟩ := only_loc el
    obtain ⟨c, ty, fz, g1, g2, g3, g4⟩ := h.row r o b base e n2
    refine ⟨c, ty, fz, (hw r b base n1 n2).trans g1, g2, g3, fun hv => ?_⟩
    obtain ⟨hz, vs, k1, k2⟩ := g4 hv
    exact ⟨hz, vs, VRL.inN (E := E.only N) (E1 := E) (fun r p hn hl => by rw [only_in hn]; exact hl) rfl k1 (hc.1 r o n1 e hv), k2⟩
  mapo r es b base e el := by
    obtain ⟨n1, n2⟩ := only_loc el
    obtain ⟨ents, clock, g1, g2, g3⟩ := h.mapo r es b base e n2
    obtain ⟨c1, c2⟩ := hc.2.1 r es n1 e
    exact ⟨ents, clock, (hw r b base n1 n2).trans g1, VRL.inN (E := E.only N) (E1 := E) (fun r p hn hl => by rw [only_in hn]; exact hl) rfl g2 c1, VRL.inN (E := E.only N) (E1 := E) (fun r p hn hl => by rw [only_in hn]; exact hl) rfl g3 c2⟩
  iter r x n b base e el := h.iter r x n b base e (only_loc el).2
  coh r1 r2 b b1 b2 e1 e2 := h.coh r1 r2 b b1 b2 (only_loc e1).2 (only_loc e2).2
  b0 r o b base e el := h.b0 r o b base e (only_loc el).2
  hid n d b _ e := by cases e
  own n c e := e.elim
  hlt n b e := by cases e

/-- the same place, with other cells that stay -/
theorem Rel.withZ {E1 : Env} {s1 : St} (h : Rel E1 s1 w) (ho : ∀ n c, ¬ E1.own n c) (hh : ∀ n, E1.hb n = none) {z : Nat → Nat → Option Value} (hz : ∀ b o v, z b o = some v → w.cell? ⟨b, o, none⟩ = some v)
    (hzap : ∀ b o v r base, z b o = some v → E1.loc r ≠ some (b, base)) (H : Hid → Nat → (Nat → Prop) → World → Prop) (h1z : ∀ c o, E1.z c o = none) : Rel { E1 with z := z, H := H } s1 w where
  wf := h.wf
  lt := h.lt
  obj := h.obj
  z := hz
  zap := hzap
  row r o b base e el := by
    obtain ⟨c, ty, fz, g1, g2, g3, g4⟩ := h.row r o b base e el
    refine ⟨c, ty, fz, g1, g2, g3, fun hv => ?_⟩
    obtain ⟨k0, vs, k1, k2⟩ := g4 hv
    refine ⟨k0, vs, ?_, k2⟩
    exact VRL.reH (fun b o v e => by rw [h1z] at e; cases e) k1
  mapo r es b base e el := by
    obtain ⟨ents, clock, g1, g2, g3⟩ := h.mapo r es b base e el
    exact ⟨ents, clock, g1, VRL.reH (fun b o v e => by rw [h1z] at e; cases e) g2, VRL.reH (fun b o v e => by rw [h1z] at e; cases e) g3⟩
  iter := h.iter
  coh := h.coh
  b0 := h.b0
  hid n d b _ e := by have e : E1.hb n = some b := e; rw [hh] at e; cases e
  own n c e := absurd e (ho n c)
  hlt n b e := by have e : E1.hb n = some b := e; rw [hh] at e; cases e
end

/-- What a function that sees how a thing lies does to it. -/
theorem base_known {P : Program} {G : Glob} {R : Hid → St → (Nat → Prop) → Nat → Prop} (hGH : G.H = Conc R) (hm : P.follows .mixedOrders = true) (hn : NoNG P) (hp : GlobPlain G) {X : Known} (hX : KnownOk P G X) {D : Live} {m loops n : Nat} {f : FuncId} {F : Hid → List AV → Option (AV × Hid)}
    (hF : ∀ d s N r0 as x d', R d s N r0 → N r0 → Wf s → Sealed s N → F d as = some (x, d') → x.flat = true ∧ ∃ s', bodyD P G (callN P G X loops n) D m P.funcs[f]? (.ptr r0 0 :: as) s = .ret x s' ∧ ∃ N', R d' s' N' r0 ∧ N' r0 ∧ (Wf s' → Sealed s' N')) : HidOk P G f F := by
  intro args s E w vs h hG ha
  unfold hidX
  split
  · rename_i k rest
    cases ha with
    | cons ha1 ha2 =>
      cases ha1 with
      | hp hb =>
        rename_i b
        split
        · rename_i d hd
          split
          · rename_i as has
            split
            · rename_i x d' hx
              have hH := h.hid k d b hd hb w (fun _ _ => rfl)
              rw [hG.2, hGH] at hH
              obtain ⟨E1, s1, N, r0, r1, r2, r3, r4, r5, r6, r7, r8, r9⟩ := hH
              obtain ⟨f1, s1', f2, N', f3, f4, f5⟩ := hF d s1 N r0 as x d' r1 r2 r5.wf r6 hx
              have hrel := r5.withZ r7 r8 (z := E.stay w) (fun b o v e => stay_cell h e) (fun b o v r base e el => by
                rw [stay_own h (r4 r b base el).2] at e; cases e) E.H r9
              have hz : ∀ b o v, E.stay w b o = some v → ({ E1 with z := E.stay w, H := E.H } : Env).z b o = some v := fun _ _ _ e => e
              have hr := bodyD_ok (D := D) hm hn (callN_ok hm hn hX loops n) m f (.ptr r0 0 :: as) s1 { E1 with z := E.stay w, H := E.H } w _ hrel (GlobOk.one h hp hG hz rfl)
                (.cons (.ptr (base := 0) 0 r3) (convL_ok h hz has ha2))
              rw [f2] at hr
              have fin : ∀ (w' : World) (E' : Env) (v' : Value), Step { E1 with z := E.stay w, H := E.H } s1 w E' s1' w' → VR E' x v' → ∃ E2, Step E s w E2 (s.set k (.hid d')) w' ∧ VR E2 x v' := by
                intro w' E' v' hs hv
                have hcl := f5 hs.rel.wf
                refine ⟨_, Step.turned h hd hb (own := fun c => E.own k c ∨ ∃ r base, N' r ∧ E'.loc r = some (c, base)) (fun c hc ho => hs.fr c hc (fun r base e => ho (r4 r c base e).2) (fun n e => r7 n c e)) hs.size hs.os hs.tape hs.output (fun c hc => ?_) fun w1 hw => ?_, hv.flat f1⟩
                · rcases hc with hc | ⟨r, base, _, hc⟩
                  · exact ⟨Nat.lt_of_lt_of_le (h.own k c hc).1 hs.size, .inl hc⟩
                  · refine ⟨(hs.rel.lt r c base hc).2, ?_⟩
                    rcases hs.new r c base hc with h1 | ⟨r0, base0, h1⟩
                    · exact .inr h1
                    · exact .inl (r4 r0 c base0 h1).2
                · rw [hG.2, hGH]
                  refine ⟨E'.only N', s1', N', r0, f3, f4, ?_, fun r c base e => ?_, hs.rel.only hcl fun r c base hn hl => hw c (.inr ⟨r, base, hn, hl⟩), hcl, fun _ _ e => e, fun _ => rfl, fun _ _ => rfl⟩
                  · rw [only_in f4]; exact hs.le.loc r0 _ r3
                  · obtain ⟨n1, n2⟩ := only_loc e
                    exact ⟨n1, .inr ⟨r, base, n1, n2⟩⟩
              rcases hr with ⟨h4, h5⟩ | ⟨v', w', E', h4, h5, h6⟩
              · exact .inl ⟨h4, Calls.mono h5 fun e w' ⟨v', E', he, hs, hv⟩ => by
                  obtain ⟨E2, k1, k2⟩ := fin w' E' v' hs hv
                  exact ⟨v', E2, he, k1, k2⟩⟩
              · obtain ⟨E2, k1, k2⟩ := fin w' E' v' h5 h6
                exact .inr ⟨v', w', E2, h4, k1, k2⟩
            · trivial
          · trivial
        · trivial
  · trivial
end Go.Am
end
section
set_option autoImplicit false
namespace Go.Am

def Env.born (E : Env) (n b : Nat) (own : Nat → Prop) : Env :=
  { E with hb := fun m => if m = n then some b else E.hb m, own := fun m c => if m = n then own c else E.own m c }

theorem Step.born {E : Env} {s : St} {w w' : World} (h : Rel E s w) {d : Hid} {b : Nat} {own : Nat → Prop} (hold : ∀ c, c < w.heap.size → w'.heap[c]? = w.heap[c]?) (hsz : w.heap.size ≤ w'.heap.size)
    (hos : w'.os = w.os) (htp : w'.tape = w.tape) (hout : w'.output = w.output) (hown : ∀ c, own c → c < w'.heap.size ∧ w.heap.size ≤ c) (hH : ∀ w1 : World, (∀ c, own c → w1.heap[c]? = w'.heap[c]?) → E.H d b own w1) :
    Step E s w (E.born s.next b own) (s.push (.hid d)) w' := by
  have hhb : E.hb s.next = none := by
    cases e : E.hb s.next with
    | none => rfl
    | some b => have := (h.hlt _ b e).1; omega
  have hle : E.le (E.born s.next b own) := ⟨fun _ _ e => e, fun _ _ _ e => e, fun _ _ _ _ => rfl, fun m b0 e => by
    show (if m = s.next then some b else E.hb m) = some b0
    rw [if_neg (fun e2 => by rw [e2, hhb] at e; cases e)]; exact e, rfl⟩
  have hwf : Wf (s.push (.hid d)) := h.wf.push_other _ (by intro o; simp)
  have hp := h.push (.hid d) hwf
  have hownlt : ∀ m c, E.own m c → ¬ own c := fun m c e ho => by
    have := (h.own m c e).1
    have := (hown c ho).2
    omega
  refine ⟨hle, fun _ _ => rfl, fun r c base e => .inr ⟨r, base, e⟩, ?_, fun r hr _ _ _ => get_push_old hr, Nat.le_succ _, fun c hc _ _ => hold c hc, hos, htp, hout, hsz, fun m c e => ?_, fun m d1 e => ⟨d1, by rw [get_push_old (h.wf.lt e)]; exact e⟩⟩
  · refine ⟨hwf, fun r c base e => ⟨(hp.lt r c base e).1, Nat.lt_of_lt_of_le (hp.lt r c base e).2 hsz⟩, hp.obj, fun c o v e => ?_, h.zap, fun r o c base e el => ?_, fun r es c base e el => ?_, hp.iter, hp.coh, hp.b0, fun m d1 b1 e eb w1 hw => ?_, fun m c e => ?_, fun m b1 e => ?_⟩
    · have h1 := h.z c o v e
      exact (World.cell?_of_block (w := w) (hold c (World.block_lt_of_cell? w _ h1))).trans h1
    · obtain ⟨c', ty, fz, g1, g2, g3, g4⟩ := hp.row r o c base e el
      refine ⟨c', ty, fz, (hold c (h.lt r c base el).2).trans g1, g2, g3, fun hv => ?_⟩
      obtain ⟨hz, vs, k1, k2⟩ := g4 hv
      exact ⟨hz, vs, VRL.mono hle k1, k2⟩
    · obtain ⟨ents, clock, g1, g2, g3⟩ := hp.mapo r es c base e el
      exact ⟨ents, clock, (hold c (h.lt r c base el).2).trans g1, VRL.mono hle g2, VRL.mono hle g3⟩
    · have eb : (if m = s.next then some b else E.hb m) = some b1 := eb
      by_cases hm : m = s.next
      · subst hm
        rw [if_pos rfl] at eb
        cases eb
        rw [get_push_new] at e
        cases e
        have e2 : (E.born s.next b own).own s.next = own := by funext c; exact if_pos rfl
        rw [e2] at hw ⊢
        exact hH w1 hw
      · rw [if_neg hm] at eb
        rw [get_push_old (h.hlt m b1 eb).1] at e
        have e2 : (E.born s.next b own).own m = E.own m := by funext c; exact if_neg hm
        rw [e2] at hw ⊢
        exact h.hid m d1 b1 e eb w1 fun c hc => (hw c hc).trans (hold c (h.own m c hc).1)
    · have e : (if m = s.next then own c else E.own m c) := e
      by_cases hm : m = s.next
      · rw [if_pos hm] at e
        obtain ⟨q1, q2⟩ := hown c e
        refine ⟨q1, fun r base el => ?_, fun o => ?_, fun m' e' => ?_⟩
        · have := (h.lt r c base el).2; omega
        · show E.z c o = none
          cases hz : E.z c o with
          | none => rfl
          | some v => have := World.block_lt_of_cell? w _ (h.z c o v hz); simp at this; omega
        · have e' : (if m' = s.next then own c else E.own m' c) := e'
          by_cases hm' : m' = s.next
          · rw [hm', hm]
          · rw [if_neg hm'] at e'; exact absurd e (hownlt m' c e')
      · rw [if_neg hm] at e
        obtain ⟨q1, q2, q3, q4⟩ := h.own m c e
        refine ⟨Nat.lt_of_lt_of_le q1 hsz, q2, q3, fun m' e' => ?_⟩
        have e' : (if m' = s.next then own c else E.own m' c) := e'
        by_cases hm' : m' = s.next
        · rw [if_pos hm'] at e'; exact absurd e' (hownlt m c e)
        · rw [if_neg hm'] at e'; exact q4 m' e'
    · have e : (if m = s.next then some b else E.hb m) = some b1 := e
      by_cases hm : m = s.next
      · subst hm; exact ⟨Nat.lt_succ_self _, d, get_push_new⟩
      · rw [if_neg hm] at e; exact hp.hlt m b1 e
  · have e : (if m = s.next then own c else E.own m c) := e
    by_cases hm : m = s.next
    · rw [if_pos hm] at e; exact .inr (hown c e).2
    · rw [if_neg hm] at e; exact .inl e

/-- A function that makes such a thing. -/
def newX (F : List AV → Option (Hid × List AV)) : List AV → St → Res := fun args s =>
  match F args with
  | some (d, xs) => .ret (.tup (.hptr s.next :: xs)) (s.push (.hid d))
  | none => .fail

def BornOk (P : Program) (G : Glob) (f : FuncId) (F : List AV → Option (Hid × List AV)) : Prop :=
  ∀ (args : List AV) (s : St) (E : Env) (w : World) (vs : List Value), Rel E s w → GlobOk E G w → VRL E args vs → ResOk P E s w f vs (newX F args s)

theorem new_known {P : Program} {G : Glob} {R : Hid → St → (Nat → Prop) → Nat → Prop} (hGH : G.H = Conc R) (hm : P.follows .mixedOrders = true) (hn : NoNG P) (hp : GlobPlain G) {X : Known} (hX : KnownOk P G X) {D : Live} {m loops n : Nat} {f : FuncId} {F : List AV → Option (Hid × List AV)}
    (hF : ∀ as d xs, F as = some (d, xs) → AV.plains as = true ∧ AV.flats xs = true ∧ ∃ s1 r0 N, bodyD P G (callN P G X loops n) D m P.funcs[f]? as St.empty = .ret (.tup (.ptr r0 0 :: xs)) s1 ∧ R d s1 N r0 ∧ N r0 ∧ (Wf s1 → Sealed s1 N) ∧ ∃ o, s1.get r0 = some (.row o) ∧ o.root = r0 ∧ o.pos = 0) :
    BornOk P G f F := by
  intro args s E w vs h hG ha
  unfold newX
  split
  · rename_i d xs hx
    obtain ⟨h1, h2, s1, r0, N, h3, h4, h5, h6, o, h7, h8, h9⟩ := hF args d xs hx
    have hr := bodyD_ok (D := D) hm hn (callN_ok hm hn hX loops n) m f args St.empty E.bare w vs h.bare (hG.bare hp) (VRL.plain (E := E.bare) (E1 := E) (fun _ _ _ e => e) ha h1)
    rw [h3] at hr
    have fin : ∀ (w' : World) (E1 : Env) (v' : Value), Step E.bare St.empty w E1 s1 w' → VR E1 (.tup (.ptr r0 0 :: xs)) v' → ∃ E2, Step E s w E2 (s.push (.hid d)) w' ∧ VR E2 (.tup (.hptr s.next :: xs)) v' := by
      intro w' E1 v' hs hv
      cases hv with
      | tup hv =>
        cases hv with
        | cons hv hvs =>
          cases hv with
          | ptr off hl =>
            rename_i b base
            have hb0 := hs.rel.b0 r0 o b base h7 hl h8 h9
            subst hb0
            have hfr : ∀ c, c < w.heap.size → w'.heap[c]? = w.heap[c]? := fun c hc => hs.fr c hc (fun r base e => by cases e) (fun n e => e)
            refine ⟨E.born s.next b fun c => ∃ r base, N r ∧ E1.loc r = some (c, base), Step.born h hfr hs.size hs.os hs.tape hs.output (fun c hc => ?_) fun w1 hw => ?_, .tup (.cons (.hp (if_pos rfl)) (hvs.flat h2))⟩
            · obtain ⟨r, base, _, hc⟩ := hc
              refine ⟨(hs.rel.lt r c base hc).2, ?_⟩
              rcases hs.new r c base hc with k1 | ⟨r1, base1, k1⟩
              · exact k1
              · cases k1
            · rw [hG.2, hGH]
              refine ⟨E1.only N, s1, N, r0, h4, h5, by rw [only_in h5]; exact hl, fun r c base e => ?_, hs.rel.only (h6 hs.rel.wf) fun r c base hn hl => hw c ⟨r, base, hn, hl⟩, h6 hs.rel.wf, fun _ _ e => e, fun _ => rfl, fun _ _ => rfl⟩
              obtain ⟨n1, n2⟩ := only_loc e
              exact ⟨n1, r, base, n1, n2⟩
    rcases hr with ⟨h10, h11⟩ | ⟨v', w', E', h10, h11, h12⟩
    · exact .inl ⟨h10, Calls.mono h11 fun e w' ⟨v', E', he, hs, hv⟩ => by
        obtain ⟨E2, k1, k2⟩ := fin w' E' v' hs hv
        exact ⟨v', E2, he, k1, k2⟩⟩
    · obtain ⟨E2, k1, k2⟩ := fin w' E' v' h11 h12
      exact .inr ⟨v', w', E2, h10, k1, k2⟩
  · trivial
end Go.Am
end
section
set_option autoImplicit false
namespace Go.Am

/-- what is not known of a cell is left open -/
def blur (a : AV) : AV := bif a.plain then a else .undef
def blurL : List AV → List AV
  | [] => []
  | a :: l => blur a :: blurL l

/-- an argument, for one who only looks -/
def convR (s : St) : AV → Option AV
  | .ptr r off => match rowAt s r with
    | some o => some (.ptrL (blurL o.vals) off)
    | none => none
  | a => convA s a
def convRL (s : St) : List AV → Option (List AV)
  | [] => some []
  | a :: l => match convR s a with
    | some x => match convRL s l with | some q => some (x :: q) | none => none
    | none => none

theorem convR_other {s : St} {a : AV} (h : ∀ r off, a ≠ .ptr r off) : convR s a = convA s a := by
  unfold convR
  split
  · exact absurd rfl (h _ _)
  · rfl

/-- Nothing is numbered; all that lies stays. -/
noncomputable def Env.look (E : Env) (w : World) : Env := { Env.none with z := E.stay w, bsz := E.bsz, H := E.H }

section
variable {E : Env} {s : St} {w : World}

theorem Rel.look (h : Rel E s w) : Rel (E.look w) St.empty w where
  wf := .empty
  lt r b base e := by cases e
  obj r p e := by cases e
  z b o v e := stay_cell h e
  zap b o v r base _ e := by cases e
  row r o b base _ e := by cases e
  mapo r es b base _ e := by cases e
  iter r x n b base _ e := by cases e
  coh r1 r2 b b1 b2 e := by cases e
  b0 r o b base _ e := by cases e
  hid n d b _ e := by cases e
  own n c e := e.elim
  hlt n b e := by cases e

theorem Step.looked {E1 : Env} {s1 : St} {w' : World} (h0 : Rel E s w) (h : Step (E.look w) St.empty w E1 s1 w') : Step E s w E s w' := by
  have hfr : ∀ b, b < w.heap.size → w'.heap[b]? = w.heap[b]? := fun b hb => h.fr b hb (fun r base e => by cases e) (fun n e => e)
  refine ⟨.refl E, fun _ _ => rfl, fun r b base e => .inr ⟨r, base, e⟩, ?_, fun _ _ _ _ _ => rfl, Nat.le_refl _, fun b hb _ _ => hfr b hb, h.os, h.tape, h.output, h.size, fun _ _ e => .inl e, fun _ d e => ⟨d, e⟩⟩
  refine ⟨h0.wf, fun r b base e => ⟨(h0.lt r b base e).1, Nat.lt_of_lt_of_le (h0.lt r b base e).2 h.size⟩, h0.obj, fun b o v e => h.rel.z b o v (h.le.z b o v (stay_z h0 e)), h0.zap, ?_, ?_, h0.iter, h0.coh, h0.b0,
    fun n d b e eb w1 hw => h0.hid n d b e eb w1 fun k hk => (hw k hk).trans (hfr k (h0.own n k hk).1), fun n k hk => ⟨Nat.lt_of_lt_of_le (h0.own n k hk).1 h.size, (h0.own n k hk).2⟩, h0.hlt⟩
  · intro r o b base e el
    rw [hfr b (h0.lt r b base el).2]
    exact h0.row r o b base e el
  · intro r es b base e el
    rw [hfr b (h0.lt r b base el).2]
    exact h0.mapo r es b base e el

theorem blurL_ok {E0 : Env} (hz : ∀ b o v, E.z b o = some v → E0.z b o = some v) : ∀ {l : List AV} {r : List Value}, VRL E l r → VRL E0 (blurL l) r
  | [], _, .nil => .nil
  | a :: _, _, .cons h t => by
    refine .cons ?_ (blurL_ok hz t)
    unfold blur
    rcases Bool.eq_false_or_eq_true a.plain with hp | hp
    · rw [cond_of_true hp]; exact VR.plain hz h hp
    · rw [cond_of_false hp]; exact .undef _

theorem convR_ok (h : Rel E s w) {E0 : Env} (hz : ∀ b o v, E.stay w b o = some v → E0.z b o = some v) {a x : AV} (hx : convR s a = some x) {v : Value} (hv : VR E a v) : VR E0 x v := by
  cases hv with
  | ptr off hloc =>
    rename_i r b base
    simp only [convR] at hx
    split at hx
    · rename_i o ho
      cases hx
      obtain ⟨ho1, ho2⟩ := rowAt_eq ho
      obtain ⟨c, ty, fz, g1, g2, g3, g4⟩ := h.row r o b base ho1 hloc
      obtain ⟨_, vs, k1, k2⟩ := g4 ho2
      refine .ptrL off (blurL_ok (fun b o u e => hz b o u (stay_z h e)) k1) fun i u hu => hz _ _ _ ?_
      rw [stay_at hloc, World.cell?, g1]
      exact k2 i u hu
    · cases hx
  | int k n => exact convA_ok h hz ((convR_other (by intro _ _ e; cases e)).symm.trans hx) (.int k n)
  | bool b => exact convA_ok h hz ((convR_other (by intro _ _ e; cases e)).symm.trans hx) (.bool b)
  | str s => exact convA_ok h hz ((convR_other (by intro _ _ e; cases e)).symm.trans hx) (.str s)
  | nilp => exact convA_ok h hz ((convR_other (by intro _ _ e; cases e)).symm.trans hx) .nilp
  | ptrL off h1 h2 => exact convA_ok h hz ((convR_other (by intro _ _ e; cases e)).symm.trans hx) (.ptrL off h1 h2)
  | sl h1 h2 h3 h4 => exact convA_ok h hz ((convR_other (by intro _ _ e; cases e)).symm.trans hx) (.sl h1 h2 h3 h4)
  | lst h1 h2 h3 h4 h5 h6 => exact convA_ok h hz ((convR_other (by intro _ _ e; cases e)).symm.trans hx) (.lst h1 h2 h3 h4 h5 h6)
  | mpn => exact convA_ok h hz ((convR_other (by intro _ _ e; cases e)).symm.trans hx) .mpn
  | mp h1 => exact convA_ok h hz ((convR_other (by intro _ _ e; cases e)).symm.trans hx) (.mp h1)
  | hp h1 => exact convA_ok h hz ((convR_other (by intro _ _ e; cases e)).symm.trans hx) (.hp h1)
  | fn h1 h2 => exact convA_ok h hz ((convR_other (by intro _ _ e; cases e)).symm.trans hx) (.fn h1 h2)
  | nilfn => exact convA_ok h hz ((convR_other (by intro _ _ e; cases e)).symm.trans hx) .nilfn
  | ifc h1 => exact convA_ok h hz ((convR_other (by intro _ _ e; cases e)).symm.trans hx) (.ifc h1)
  | nilifc => exact convA_ok h hz ((convR_other (by intro _ _ e; cases e)).symm.trans hx) .nilifc
  | agg h1 => exact convA_ok h hz ((convR_other (by intro _ _ e; cases e)).symm.trans hx) (.agg h1)
  | tup h1 => exact convA_ok h hz ((convR_other (by intro _ _ e; cases e)).symm.trans hx) (.tup h1)
  | lit v h1 => exact convA_ok h hz ((convR_other (by intro _ _ e; cases e)).symm.trans hx) (.lit v h1)
  | undef v => exact convA_ok h hz ((convR_other (by intro _ _ e; cases e)).symm.trans hx) (.undef v)

theorem convRL_ok (h : Rel E s w) {E0 : Env} (hz : ∀ b o v, E.stay w b o = some v → E0.z b o = some v) : ∀ {l q : List AV}, convRL s l = some q → ∀ {vs : List Value}, VRL E l vs → VRL E0 q vs
  | [], q, hq, vs, hv => by cases hq; cases hv; exact .nil
  | a :: l, q, hq, vs, hv => by
    cases hv with
    | cons h1 h2 =>
      simp only [convRL] at hq
      split at hq
      · rename_i x hx
        split at hq
        · rename_i q' hq'
          cases hq
          exact .cons (convR_ok h hz hx h1) (convRL_ok h hz hq' h2)
        · cases hq
      · cases hq
end

/-- A function of what it sees. -/
def readX (F : List AV → Option AV) : List AV → St → Res := fun args s =>
  match convRL s args with
  | some as => match F as with | some x => .ret x s | none => .fail
  | none => .fail

def ReadOk (P : Program) (G : Glob) (f : FuncId) (F : List AV → Option AV) : Prop :=
  ∀ (args : List AV) (s : St) (E : Env) (w : World) (vs : List Value), Rel E s w → GlobOk E G w → VRL E args vs → ResOk P E s w f vs (readX F args s)

theorem read_known {P : Program} {G : Glob} (hm : P.follows .mixedOrders = true) (hn : NoNG P) (hp : GlobPlain G) {X : Known} (hX : KnownOk P G X) {D : Live} {m loops n : Nat} {f : FuncId} {F : List AV → Option AV}
    (hF : ∀ as x, F as = some x → x.flat = true ∧ bodyK P G X loops n D Res.val? m P.funcs[f]? as St.empty = some x) : ReadOk P G f F := by
  intro args s E w vs h hG ha
  unfold readX
  split
  · rename_i as has
    split
    · rename_i x hx
      obtain ⟨h2, h3⟩ := hF as x hx
      have h3 := bodyK_le h3
      have hz : ∀ b o v, E.stay w b o = some v → (E.look w).z b o = some v := fun _ _ _ e => e
      have this := bodyD_ok (D := D) hm hn (callN_ok hm hn hX loops n) m f as St.empty (E.look w) w vs h.look (GlobOk.one h hp hG hz rfl) (convRL_ok h hz has ha)
      cases hb : bodyD P G (callN P G X loops n) D m P.funcs[f]? as St.empty with
      | ret y s1 =>
        rw [hb] at h3 this
        simp only [Res.val?, Option.some.injEq] at h3
        subst h3
        rcases this with ⟨h4, h5⟩ | ⟨v', w', E', h4, h5, h6⟩
        · exact .inl ⟨h4, Calls.mono h5 fun e w' ⟨v', E', he, hs, hv⟩ => ⟨v', E, he, .looked h hs, hv.flat h2⟩⟩
        · exact .inr ⟨v', w', E, h4, .looked h h5, h6.flat h2⟩
      | _ => rw [hb] at h3; cases h3
    · trivial
  · trivial

/-! ## The beginning -/
def Env.start (H : Hid → Nat → (Nat → Prop) → World → Prop) : Env := { Env.none with H := H }

theorem Rel.start (H : Hid → Nat → (Nat → Prop) → World → Prop) (w : World) : Rel (Env.start H) St.empty w where
  wf := .empty
  lt r b base e := by cases e
  obj r p e := by cases e
  z b o v e := by cases e
  zap b o v r base e := by cases e
  row r o b base _ e := by cases e
  mapo r es b base _ e := by cases e
  iter r x n b base _ e := by cases e
  coh r1 r2 b b1 b2 e := by cases e
  b0 r o b base _ e := by cases e
  hid n d b _ e := by cases e
  own n c e := e.elim
  hlt n b e := by cases e

theorem Step.kept {H : Hid → Nat → (Nat → Prop) → World → Prop} {s' : St} {E' : Env} {w w' : World} (h : Step (Env.start H) St.empty w E' s' w') (may : MemPlace → Prop) : w.keptBut w' may := by
  refine ⟨h.os, h.output, fun i hi => ?_⟩
  have := (World.keptBut_refl w may).2.2 i hi
  rw [h.fr i hi (fun r base e => by cases e) (fun n e => e)]
  exact this
end Go.Am
end
