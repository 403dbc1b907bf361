/- A function that is run from nothing and makes a list. -/
import Derived.Test.YtaiddjgpnpbckaaGreatDoorAmLive
set_option autoImplicit false
namespace Go.Am

/-- The cells of a slice that is handed over. -/
def Res.list? : Res → Option AV
  | .ret (.sl r off len es tight) s => match rowAt s r with
    | some o => match cutN (len * es) off o.vals with
      | some cs => bif Nat.blt 0 len then some (.lst cs len tight false) else none
      | none => none
    | none => none
  | _ => none

theorem Step.alone_list {E E1 : Env} {s s1 : St} {w w' : World} (h0 : Rel E s w) (h : Step E.bare St.empty w E1 s1 w') {r off len es : Nat} {tight : Bool} {v : Value}
    (hv : VR E1 (.sl r off len es tight) v) {o : Row} (ho : rowAt s1 r = some o) {cs : List AV} (hc : cutN (len * es) off o.vals = some cs) (hp : AV.flats cs = true) (hl0 : 0 < len) :
    ∃ E', Step E s w E' s w' ∧ VR E' (.lst cs len tight false) v := by
  have hd := Step.alone h0 h
  obtain ⟨ho1, ho2⟩ := rowAt_eq ho
  cases hv with
  | sl hloc hle ht ha =>
    rename_i b base cap a
    obtain ⟨c, ty, fz, g1, g2, g3, g4⟩ := h.rel.row r o b base ho1 hloc
    obtain ⟨_, vs, k1, k2⟩ := g4 ho2
    obtain ⟨e1, e2⟩ := takeN_eq hc
    have hcs : VRL E1 cs ((vs.drop off).take (len * es)) := by rw [e1]; exact (k1.drop off).take _
    have hb : w.heap.size ≤ b := by
      rcases h.new r b base hloc with h1 | ⟨r0, base0, h1⟩
      · exact h1
      · cases h1
    let E' : Env := { E with z := fun b2 i => if b2 = b then w'.cell? ⟨b2, i, none⟩ else E.z b2 i }
    have hle' : E.le E' := by
      refine ⟨fun _ _ e => e, fun b2 i u e => ?_, fun _ _ _ _ => rfl, fun _ _ e => e, rfl⟩
      show (if b2 = b then _ else E.z b2 i) = some u
      have hlt := World.block_lt_of_cell? w _ (h0.z b2 i u e)
      have hlt : b2 < w.heap.size := hlt
      rw [if_neg (by omega)]
      exact e
    refine ⟨E', ⟨hle', hd.old, hd.new, ?_, hd.un, hd.next, hd.fr, hd.os, hd.tape, hd.output, hd.size, hd.owns, hd.hids⟩, ?_⟩
    · refine ⟨hd.rel.wf, hd.rel.lt, hd.rel.obj, ?_, ?_, ?_, ?_, hd.rel.iter, hd.rel.coh, hd.rel.b0, hd.rel.hid, fun n k hk => ?_, hd.rel.hlt⟩
      rotate_right
      · obtain ⟨q1, q2, q3, q4⟩ := hd.rel.own n k hk
        refine ⟨q1, q2, fun i => ?_, q4⟩
        have := (h0.own n k hk).1
        show (if k = b then _ else E.z k i) = none
        rw [if_neg (by omega)]; exact q3 i
      · intro b2 i u e
        have e : (if b2 = b then w'.cell? ⟨b2, i, none⟩ else E.z b2 i) = some u := e
        by_cases hb2 : b2 = b
        · rw [if_pos hb2] at e; exact e
        · rw [if_neg hb2] at e; exact hd.rel.z b2 i u e
      · intro b2 i u q base2 e e2
        have e : (if b2 = b then w'.cell? ⟨b2, i, none⟩ else E.z b2 i) = some u := e
        by_cases hb2 : b2 = b
        · have := (h0.lt q b2 base2 e2).2; omega
        · rw [if_neg hb2] at e; exact hd.rel.zap b2 i u q base2 e e2
      · intro q o2 b2 base2 e el
        obtain ⟨c2, ty2, fz2, m1, m2, m3, m4⟩ := hd.rel.row q o2 b2 base2 e el
        refine ⟨c2, ty2, fz2, m1, m2, m3, fun hv2 => ?_⟩
        obtain ⟨hz, us, u1, u2⟩ := m4 hv2
        exact ⟨hz, us, VRL.mono hle' u1, u2⟩
      · intro q es2 b2 base2 e el
        obtain ⟨ents, clock, m1, m2, m3⟩ := hd.rel.mapo q es2 b2 base2 e el
        exact ⟨ents, clock, m1, VRL.mono hle' m2, VRL.mono hle' m3⟩
    · obtain ⟨ea, _⟩ := ha (by omega)
      subst ea
      refine .lst (VRL.flat hcs hp) hle ht rfl (fun e => by cases e) fun _ => ⟨b, base + off, rfl, fun i u hu => ?_⟩
      show (if b = b then _ else _) = some u
      rw [if_pos rfl, World.cell?, g1]
      rw [List.getElem?_take] at hu
      split at hu
      · rw [List.getElem?_drop] at hu
        have := k2 _ u hu
        simpa [Nat.add_assoc] using this
      · cases hu

theorem list_known {P : Program} {G : Glob} (hm : P.follows .mixedOrders = true) (hn : NoNG P) (hp : GlobPlain G) {X : Known} (hX : KnownOk P G X) {D : Live} {m loops n : Nat} {f : FuncId} {F : List AV → Option AV}
    (hF : ∀ args x, F args = some x → AV.plains args = true ∧ (∃ cs len tight, x = .lst cs len tight false ∧ AV.flats cs = true) ∧ bodyK P G X loops n D Res.list? m P.funcs[f]? args St.empty = some x) :
    ∀ (args : List AV) (s : St) (E : Env) (w : World) (vs : List Value), Rel E s w → GlobOk E G → VRL E args vs → ResOk P E s w f vs (pureX F args s) := by
  intro args s E w vs h hG ha
  unfold pureX
  cases hx : F args with
  | none => trivial
  | some x =>
    obtain ⟨h1, ⟨cs, len, tight, rfl, h2⟩, h3⟩ := hF args x hx
    have h3 := bodyK_le h3
    have := bodyD_ok (D := D) hm hn (callN_ok hm hn hX loops n) m f args St.empty E.bare w vs h.bare (hG.bare hp) (VRL.plain (E := E.bare) (E1 := E) (fun _ _ _ e => e) ha h1)
    generalize bodyD P G (callN P G X loops n) D m P.funcs[f]? args St.empty = r at h3 this
    unfold Res.list? at h3
    split at h3
    · rename_i r off len' es tight' s1
      split at h3
      · rename_i o ho
        split at h3
        · rename_i cs' hc
          rcases Bool.eq_false_or_eq_true (Nat.blt 0 len') with hb | hb
          · rw [cond_of_true hb] at h3
            cases h3
            have hl0 : 0 < len := Nat.le_of_ble_eq_true hb
            rcases this with ⟨h4, h5⟩ | ⟨v', w', E', h4, h5, h6⟩
            · refine .inl ⟨h4, Calls.mono h5 fun e w' ⟨v', E', he, hs, hv⟩ => ?_⟩
              obtain ⟨E2, k1, k2⟩ := Step.alone_list h hs hv ho hc h2 hl0
              exact ⟨v', E2, he, k1, k2⟩
            · obtain ⟨E2, k1, k2⟩ := Step.alone_list h h5 h6 ho hc h2 hl0
              exact .inr ⟨v', w', E2, h4, k1, k2⟩
          · rw [cond_of_false hb] at h3; cases h3
        · cases h3
      · cases h3
    · cases h3

/-- What is known of a function of values. -/
def PureOk (P : Program) (G : Glob) (f : FuncId) (F : List AV → Option AV) : Prop :=
  ∀ (args : List AV) (s : St) (E : Env) (w : World) (vs : List Value), Rel E s w → GlobOk E G → VRL E args vs → ResOk P E s w f vs (pureX F args s)

def Known.none : Known := fun _ => .none
def Known.add (X : Known) (f : FuncId) (h : List AV → St → Res) : Known := fun g => bif Nat.beq g f then some h else X g

theorem KnownOk.none (P : Program) (G : Glob) : KnownOk P G .none := fun _ _ h => by cases h

theorem KnownOk.add {P : Program} {G : Glob} {X : Known} (hX : KnownOk P G X) {f : FuncId} {h : List AV → St → Res}
    (hf : ∀ (args : List AV) (s : St) (E : Env) (w : World) (vs : List Value), Rel E s w → GlobOk E G → VRL E args vs → ResOk P E s w f vs (h args s)) : KnownOk P G (X.add f h) := by
  intro g k hk
  unfold Known.add at hk
  rcases Bool.eq_false_or_eq_true (Nat.beq g f) with hb | hb
  · rw [cond_of_true hb] at hk
    cases hk
    have := Nat.eq_of_beq_eq_true hb
    subst this
    exact hf
  · rw [cond_of_false hb] at hk
    exact hX g k hk

/-! ## The first loop of a code, and what is done behind it -/
def loopOf : Code → Nat → Option (Nat × Code)
  | .seq a b, i => match loopOf a i with | some r => some r | none => loopOf b i
  | .block id c, _ => loopOf c id
  | .loop c, i => some (i, c)
  | _, _ => none

section
variable {β : Type} (P : Program) (G : Glob) (X : Known) (loops n : Nat) (D : Live)
/-- what is done behind the first loop -/
def afterK (m : Nat) : Code → Nat → KA β → Option (KA β)
  | .seq a b, i, k => match afterK m a i fun o t s => match o with | .normal => execK P G (callN P G X loops n) (callK P G X loops n) D m b i k t s | o => k o t s with
    | some k' => some k'
    | none => afterK m b i k
  | .block id c, _, k => afterK m c id fun o t s => match o with | .exit j => bif j.beq id then k .normal t s else k (.exit j) t s | o => k o t s
  | .loop _, _, k => some k
  | _, _, _ => none

def bodyOf (f : FuncId) : Code := match P.funcs[f]? with | some fn => (match fn.body with | some c => c | none => .skip) | none => .skip
/-- the body of the first loop of a function -/
def loopBody (m : Nat) (f : FuncId) : KA β → T → St → Option β :=
  match loopOf (bodyOf P f) 0 with | some (i, c) => execK P G (callN P G X loops n) (callK P G X loops n) D m c i | none => fun _ _ _ => none
/-- what is done behind a function's first loop -/
def loopEnd (kr : Res → Option β) (m : Nat) (f : FuncId) : KA β :=
  match P.funcs[f]? with
  | some fn => (match fn.body with
    | some c => (match afterK P G X loops n D m c 0 (fun o t s => kr (finC P fn.results.toList (callB P G (callN P G X loops n) m) (.mk o t s))) with | some k => k | none => fun _ _ _ => none)
    | none => fun _ _ _ => none)
  | none => fun _ _ _ => none
end

/-- slots with what is in them -/
def slots : List (Nat × AV) → Tr AV → Tr AV
  | [], tr => tr
  | (i, v) :: l, tr => slots l (tr.setP v (pathOf i))
end Go.Am
