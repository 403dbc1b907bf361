import Derived.Test.YtlibahklbbachaaGreatDoorTx6
set_option autoImplicit false
set_option maxRecDepth 100000
set_option linter.unusedSimpArgs false
set_option linter.unusedVariables false
section
namespace Go.Am
/-! ## Calls, with what is known told to a continuation -/
section
variable {β : Type}
abbrev KnownK (β : Type) := FuncId → Option (List AV → St → (Res → Option β) → Option β)
def KnownKOk (X : Known) (Y : KnownK β) : Prop :=
  ∀ f hk, Y f = some hk → ∃ h, X f = some h ∧ ∀ args s (kr kr' : Res → Option β), (∀ r, Le (kr r) (kr' r)) → Le (hk args s kr) (kr' (h args s))
def KnownK.none : KnownK β := fun _ => .none
def KnownK.add (Y : KnownK β) (f : FuncId) (h : List AV → St → (Res → Option β) → Option β) : KnownK β := fun g => bif Nat.beq g f then some h else Y g
def callY (P : Program) (G : Glob) (X : Known) (Y : KnownK β) (loops : Nat) : Nat → CK β
  | 0 => fun _ _ _ _ => none
  | n + 1 => fun f args s kr => match Y f with
    | some hk => hk args s kr
    | none => match X f with
      | some h => kr (h args s)
      | none => bodyJ P G (callN P G X loops n) (callY P G X Y loops n) noLive kr loops P.funcs[f]? args s
def bodyY (P : Program) (G : Glob) (X : Known) (Y : KnownK β) (loops n : Nat) (D : Live) (kr : Res → Option β) (m : Nat) (fn : Option Func) : List AV → St → Option β :=
  bodyJ P G (callN P G X loops n) (callY P G X Y loops n) D kr m fn
theorem callY_le {P : Program} {G : Glob} {X : Known} {Y : KnownK β} (hY : KnownKOk X Y) {loops : Nat} : ∀ (n : Nat) (f : FuncId) (args : List AV) (s : St) (kr kr' : Res → Option β), (∀ r, Le (kr r) (kr' r)) → Le (callY P G X Y loops n f args s kr) (kr' (callN P G X loops n f args s))
  | 0, _, _, _, _, _, _ => .none _
  | n + 1, f, args, s, kr, kr', h => by
    simp only [callY, callN]
    cases hy : Y f with
    | some hk =>
      obtain ⟨g, h1, h2⟩ := hY f hk hy
      simp only [h1]
      exact h2 args s kr kr' h
    | none =>
      simp only
      cases X f with
      | some g => exact h _
      | none =>
        simp only
        rw [← noLive_body]
        exact bodyJ_le (callY_le hY n) h _ args s
theorem bodyY_le {P : Program} {G : Glob} {X : Known} {Y : KnownK β} (hY : KnownKOk X Y) {loops n m : Nat} {D : Live} {kr : Res → Option β} {fn : Option Func} {args : List AV} {s : St} {x : β} (h : bodyY P G X Y loops n D kr m fn args s = some x) :
    kr (bodyD P G (callN P G X loops n) D m fn args s) = some x := bodyJ_le (callY_le hY n) (fun _ => .refl _) fn args s x h
theorem KnownKOk.none (X : Known) : KnownKOk X (KnownK.none : KnownK β) := fun _ _ h => by cases h
theorem KnownKOk.add {X : Known} {Y : KnownK β} (hY : KnownKOk X Y) {f : FuncId} {h : List AV → St → Res} {hk : List AV → St → (Res → Option β) → Option β}
    (hh : ∀ args s (kr kr' : Res → Option β), (∀ r, Le (kr r) (kr' r)) → Le (hk args s kr) (kr' (h args s))) (hf : X f = some h) : KnownKOk X (Y.add f hk) := by
  intro g q hq
  unfold KnownK.add at hq
  rcases Bool.eq_false_or_eq_true (Nat.beq g f) with hb | hb
  · rw [cond_of_true hb] at hq
    cases hq
    have := Nat.eq_of_beq_eq_true hb
    subst this
    exact ⟨h, hf, hh⟩
  · rw [cond_of_false hb] at hq
    exact hY g q hq
end
/-! ## A function's first loop -/
section
variable {β : Type} (P : Program) (G : Glob) (X : Known) (Y : KnownK β) (loops n : Nat) (D : Live) (bs : Option Nat)
def afterY (m : Nat) : Code → Nat → KA β → Option (KA β)
  | .seq a b, i, k => match afterY m a i fun o t s => match o with | .normal => execK P G (callN P G X loops n) (callY P G X Y loops n) D bs m b i k t s | o => k o t s with
    | some k' => some k'
    | none => afterY m b i k
  | .block id c, _, k => afterY m c id fun o t s => match o with | .exit j => bif j.beq id then k .normal t s else k (.exit j) t s | o => k o t s
  | .loop _, _, k => some k
  | _, _, _ => none
def loopBodyY (m : Nat) (f : FuncId) : KA β → T → St → Option β :=
  match loopOf (bodyOf P f) 0 with | some (i, c) => execK P G (callN P G X loops n) (callY P G X Y loops n) D bs m c i | none => fun _ _ _ => none
def loopEndY (kr : Res → Option β) (m : Nat) (f : FuncId) : KA β :=
  match P.funcs[f]? with
  | some fn => (match fn.body with
    | some c => (match afterY P G X Y loops n D bs m c 0 (fun o t s => kr (finC P fn.results.toList (callB P G (callN P G X loops n) m) (.mk o t s))) with | some k => k | none => fun _ _ _ => none)
    | none => fun _ _ _ => none)
  | none => fun _ _ _ => none
def runLoop (kr : Res → Option β) (m : Nat) (f : FuncId) (md : Mode) (nb : Nat) (rounds : Nat) : T → St → Option β :=
  loopK md nb (loopBodyY P G X Y loops n D (baseO D nb) m f) (loopEndY P G X Y loops n D (baseO D nb) kr m f) rounds
end
def tOf (n : Nat) (l : List (Nat × AV)) : T := ⟨slots l .nil, n, [], .no⟩
/-! ## Arguments -/
def cellM (n : Nat) (a : AV) : AV :=
  match a with
  | .hptr m => bif m.beq n then .hptr 0 else .undef
  | a => bif a.plain then a else .undef
def cellsM (n : Nat) : List AV → List AV
  | [] => []
  | a :: l => cellM n a :: cellsM n l
def hidOf (s : St) : AV → Option Nat
  | .hptr n => some n
  | .ptr r _ | .fn _ [] [.ptr r _] => match rowAt s r with
    | some o => match o.vals with
      | .hptr n :: _ => some n
      | _ => none
    | none => none
  | .agg [.hptr n] => some n
  | .ptrL (.hptr n :: _) _ => some n
  | _ => none
def findH (s : St) : List AV → Option Nat
  | [] => none
  | a :: l => match hidOf s a with | some n => some n | none => findH s l
section
variable {γ : Type}
def convM (s : St) (n : Nat) (a : AV) (k : AV → Option γ) : Option γ :=
  match a with
  | .hptr m => bif m.beq n then k (.hptr 0) else none
  | .agg [.hptr m] => bif m.beq n then k (.agg [.hptr 0]) else none
  | .ptrL (.hptr m :: l) off => k (.ptrL (cellsM n (.hptr m :: l)) off)
  | .ptr r off => match rowAt s r with
    | some o => k (.ptrL (cellsM n o.vals) off)
    | none => none
  | .fn f [] [.ptr r off] => match rowAt s r with
    | some o => k (.fn f [] [.ptrL (cellsM n o.vals) off])
    | none => none
  | .sl r off len es tight => match rowAt s r with
    | some o => optK (fun cs => ifK (Nat.blt 0 len && AV.plains cs) (k (.lst cs len tight false))) (cutN (len * es) off o.vals)
    | none => none
  | a => ifK a.plain (k a)
def convML (s : St) (n : Nat) : List AV → (List AV → Option γ) → Option γ
  | [], k => k []
  | a :: l, k => convM s n a fun x => convML s n l fun q => k (x :: q)
def relist (s : St) (a : AV) (k : AV → Option γ) : Option γ :=
  match a with
  | .sl r off len es tight => match rowAt s r with
    | some o => optK (fun cs => ifK (Nat.blt 0 len && AV.flats cs) (k (.lst cs len tight false))) (cutN (len * es) off o.vals)
    | none => none
  | .lst [] len _ nl => k (.lst [] len false nl)
  | a => ifK a.flat (k a)
def relistL (s : St) : List AV → (List AV → Option γ) → Option γ
  | [], k => k []
  | a :: l, k => relist s a fun x => relistL s l fun q => k (x :: q)
def relistT (s : St) (a : AV) (k : AV → Option γ) : Option γ :=
  match a with
  | .tup [.agg l, e] => relistL s l fun q => relist s e fun x => k (.tup [.agg q, x])
  | .tup l => relistL s l fun q => k (.tup q)
  | a => relist s a k
end
theorem ifK_some {γ : Type} {c : Bool} {x : Option γ} {r : γ} (h : ifK c x = some r) : c = true ∧ x = some r := by
  cases c with
  | true => exact ⟨rfl, h⟩
  | false => cases h
theorem optK_some {γ δ : Type} {k : δ → Option γ} {x : Option δ} {r : γ} (h : optK k x = some r) : ∃ y, x = some y ∧ k y = some r := by
  cases x with
  | none => cases h
  | some y => exact ⟨y, rfl, h⟩
section
variable {E : Env} {s : St} {w : World} {n : Nat} {E0 : Env}
theorem cellsM_ok (hz : ∀ b o v, E.z b o = some v → E0.z b o = some v) (hh : ∀ b, E.hb n = some b → E0.hb 0 = some b) : ∀ {l : List AV} {r : List Value}, VRL E l r → VRL E0 (cellsM n l) r
  | [], _, .nil => .nil
  | a :: _, _, .cons h t => by
    refine .cons ?_ (cellsM_ok hz hh t)
    unfold cellM
    split
    · rename_i m
      rcases Bool.eq_false_or_eq_true (m.beq n) with hb | hb
      · rw [cond_of_true hb]
        have := Nat.eq_of_beq_eq_true hb
        subst this
        cases h with
        | hp hx => exact .hp (hh _ hx)
      · rw [cond_of_false hb]; exact .undef _
    · rcases Bool.eq_false_or_eq_true a.plain with hp | hp
      · rw [cond_of_true hp]; exact VR.plain hz h hp
      · rw [cond_of_false hp]; exact .undef _
theorem ptrM_ok (h : Rel E s w) (hz : ∀ b o v, E.stay w b o = some v → E0.z b o = some v) (hh : ∀ b, E.hb n = some b → E0.hb 0 = some b) {r off : Nat} {v : Value} (hv : VR E (.ptr r off) v) {o : Row} (ho : rowAt s r = some o) :
    VR E0 (.ptrL (cellsM n o.vals) off) v := by
  cases hv with
  | ptr off hloc =>
    rename_i b base
    obtain ⟨ho1, ho2⟩ := rowAt_eq ho
    obtain ⟨c, ty, fz, g1, g2, g3, g4⟩ := h.row r o b base ho1 hloc
    obtain ⟨_, vs, k1, k2⟩ := g4 ho2
    refine .ptrL off (cellsM_ok (fun b o u e => hz b o u (stay_z h e)) hh k1) fun i u hu => hz _ _ _ ?_
    rw [stay_at hloc, World.cell?, g1]
    exact k2 i u hu
theorem convM_ok {γ : Type} (h : Rel E s w) (hz : ∀ b o v, E.stay w b o = some v → E0.z b o = some v) (hh : ∀ b, E.hb n = some b → E0.hb 0 = some b) {a : AV} {k : AV → Option γ} {r : γ} (hx : convM s n a k = some r) {v : Value} (hv : VR E a v) :
    ∃ x, k x = some r ∧ VR E0 x v := by
  unfold convM at hx
  split at hx
  · rename_i m
    rcases Bool.eq_false_or_eq_true (m.beq n) with hb | hb
    · rw [cond_of_true hb] at hx
      have := Nat.eq_of_beq_eq_true hb
      subst this
      cases hv with
      | hp e => exact ⟨_, hx, .hp (hh _ e)⟩
    · rw [cond_of_false hb] at hx; cases hx
  · rename_i m
    rcases Bool.eq_false_or_eq_true (m.beq n) with hb | hb
    · rw [cond_of_true hb] at hx
      have := Nat.eq_of_beq_eq_true hb
      subst this
      cases hv with
      | agg hl => cases hl with
        | cons h1 h2 => cases h1 with
          | hp e => cases h2; exact ⟨_, hx, .agg (.cons (.hp (hh _ e)) .nil)⟩
    · rw [cond_of_false hb] at hx; cases hx
  · cases hv with
    | ptrL _ hc hk => exact ⟨_, hx, .ptrL _ (cellsM_ok (fun b o u e => hz b o u (stay_z h e)) hh hc) fun i u hu => hz _ _ _ (stay_z h (hk i u hu))⟩
  · split at hx
    · rename_i o ho
      exact ⟨_, hx, ptrM_ok h hz hh hv ho⟩
    · cases hx
  · split at hx
    · rename_i o ho
      refine ⟨_, hx, ?_⟩
      cases hv with
      | fn ha hb =>
        cases ha
        cases hb with
        | cons h1 h2 => cases h2; exact .fn .nil (.cons (ptrM_ok h hz hh h1 ho) .nil)
    · cases hx
  · rename_i r off len es tight
    split at hx
    · rename_i o ho
      obtain ⟨cs, hc, hx⟩ := optK_some hx
      obtain ⟨hb, hx⟩ := ifK_some hx
      refine ⟨_, hx, convA_ok h hz (a := .sl r off len es tight) ?_ hv⟩
      simp only [convA, ho, hc, hb, cond_true]
    · cases hx
  · obtain ⟨hb, hx⟩ := ifK_some hx
    exact ⟨_, hx, VR.plain (fun b o u e => hz b o u (stay_z h e)) hv hb⟩
theorem convML_ok {γ : Type} (h : Rel E s w) (hz : ∀ b o v, E.stay w b o = some v → E0.z b o = some v) (hh : ∀ b, E.hb n = some b → E0.hb 0 = some b) : ∀ {l : List AV} {k : List AV → Option γ} {r : γ}, convML s n l k = some r → ∀ {vs : List Value}, VRL E l vs → ∃ q, k q = some r ∧ VRL E0 q vs
  | [], k, r, hx, vs, hv => by cases hv; exact ⟨_, hx, .nil⟩
  | a :: l, k, r, hx, vs, hv => by
    cases hv with
    | cons h1 h2 =>
      obtain ⟨x, hx, h3⟩ := convM_ok h hz hh hx h1
      obtain ⟨q, hx, h4⟩ := convML_ok h hz hh hx h2
      exact ⟨_, hx, .cons h3 h4⟩
end
/-! ## What is fresh and nobody's is left as it is -/
open Classical in
noncomputable def Env.froze (E : Env) (w : World) (B : Nat → Prop) : Env := { E with z := fun b i => if B b then w.cell? ⟨b, i, .none⟩ else E.z b i }
theorem Step.keptFrozen {E E2 : Env} {s s2 : St} {w w' : World} (hd : Step E s w E2 s2 w') {B : Nat → Prop} (hB : ∀ b, B b → w.heap.size ≤ b ∧ (∀ r base, E2.loc r ≠ some (b, base)) ∧ ∀ n, ¬ E2.own n b) :
    Step E s w (E2.froze w' B) s2 w' := by
  have zin : ∀ {b : Nat} (i : Nat), B b → (E2.froze w' B).z b i = w'.cell? ⟨b, i, none⟩ := fun i hb => if_pos hb
  have zout : ∀ {b : Nat} (i : Nat), ¬ B b → (E2.froze w' B).z b i = E2.z b i := fun i hb => if_neg hb
  have h2 : ∀ b i u, E2.z b i = some u → (E2.froze w' B).z b i = some u := fun b i u e => by
    by_cases hb : B b
    · rw [zin i hb]; exact hd.rel.z b i u e
    · rw [zout i hb]; exact e
  have hle' : E2.le (E2.froze w' B) := ⟨fun _ _ e => e, h2, fun _ _ _ _ => rfl, fun _ _ e => e, rfl⟩
  refine ⟨hd.le.trans hle', hd.old, hd.new, ?_, hd.un, hd.next, hd.fr, hd.os, hd.tape, hd.output, hd.size, hd.owns, hd.hids, fun b i u e => ?_⟩
  rotate_left
  · by_cases hb : B b
    · exact .inr (.inl (hB b hb).1)
    · rw [zout i hb] at e; exact hd.zn b i u e
  refine ⟨hd.rel.wf, hd.rel.lt, hd.rel.obj, fun b i u e => ?_, fun b i u q base e e2 => ?_, fun q o2 b2 base2 e el => ?_, fun q es2 b2 base2 e el => ?_, hd.rel.iter, hd.rel.coh, hd.rel.b0, hd.rel.hid, fun n k hk => ?_, hd.rel.hlt⟩
  · by_cases hb : B b
    · rw [zin i hb] at e; exact e
    · rw [zout i hb] at e; exact hd.rel.z b i u e
  · by_cases hb : B b
    · exact (hB b hb).2.1 q base e2
    · rw [zout i hb] at e; exact hd.rel.zap b i u q base e e2
  · obtain ⟨c2, ty2, fz2, m1, m2, m3, m4⟩ := hd.rel.row q o2 b2 base2 e el
    refine ⟨c2, ty2, fz2, m1, m2, m3, fun hv2 => ?_⟩
    obtain ⟨hz, us, u1, u2⟩ := m4 hv2
    exact ⟨hz, us, VRL.mono hle' u1, u2⟩
  · obtain ⟨ents, clock, m1, m2, m3⟩ := hd.rel.mapo q es2 b2 base2 e el
    exact ⟨ents, clock, m1, VRL.mono hle' m2, VRL.mono hle' m3⟩
  · obtain ⟨q1, q2, q3, q4⟩ := hd.rel.own n k hk
    refine ⟨q1, q2, fun i => ?_, q4⟩
    rw [zout i fun hb => (hB k hb).2.2 n hk]; exact q3 i
section
variable {E1 E3 : Env} {s1 : St} {w1 : World}
theorem relist_ok {γ : Type} (h : Rel E1 s1 w1) (hz : ∀ r b base i, E1.loc r = some (b, base) → E3.z b i = w1.cell? ⟨b, i, none⟩) {a : AV} {k : AV → Option γ} {r : γ} (hx : relist s1 a k = some r) {v : Value} (hv : VR E1 a v) : ∃ x, k x = some r ∧ VR E3 x v := by
  unfold relist at hx
  split at hx
  · rename_i r off len es tight
    split at hx
    · rename_i o ho
      obtain ⟨cs, hc, hx⟩ := optK_some hx
      obtain ⟨hb, hx⟩ := ifK_some hx
      refine ⟨_, hx, ?_⟩
      rw [Bool.and_eq_true] at hb
      have hl0 : 0 < len := Nat.le_of_ble_eq_true hb.1
      cases hv with
      | sl hloc hle ht ha hsome =>
        rename_i b base cap a
        obtain ⟨ho1, ho2⟩ := rowAt_eq ho
        obtain ⟨c, ty, fz, g1, g2, g3, g4⟩ := h.row r o b base ho1 hloc
        obtain ⟨_, vs, k1, k2⟩ := g4 ho2
        obtain ⟨e1, e2⟩ := takeN_eq hc
        have hcs : VRL E1 cs ((vs.drop off).take (len * es)) := by rw [e1]; exact (k1.drop off).take _
        obtain ⟨ea, _⟩ := ha (by omega)
        subst ea
        refine .lst (VRL.flat hcs hb.2) hle ht rfl (fun e => by cases e) fun _ => ⟨b, base + off, rfl, fun i u hu => ?_⟩
        rw [hz r b base _ hloc, World.cell?, g1]
        rw [List.getElem?_take] at hu
        split at hu
        · rw [List.getElem?_drop] at hu
          have := k2 _ u hu
          simpa [Nat.add_assoc] using this
        · cases hu
    · cases hx
  · refine ⟨_, hx, ?_⟩
    cases hv with
    | lst h1 h2 h3 h4 h5 h6 =>
      cases h1
      exact .lst .nil h2 (fun e => by cases e) h4 h5 (fun e => absurd rfl e)
  · obtain ⟨hb, hx⟩ := ifK_some hx
    exact ⟨_, hx, hv.flat hb⟩
theorem relistL_ok {γ : Type} (h : Rel E1 s1 w1) (hz : ∀ r b base i, E1.loc r = some (b, base) → E3.z b i = w1.cell? ⟨b, i, none⟩) : ∀ {l : List AV} {k : List AV → Option γ} {r : γ}, relistL s1 l k = some r → ∀ {vs : List Value}, VRL E1 l vs → ∃ q, k q = some r ∧ VRL E3 q vs
  | [], k, r, hx, vs, hv => by cases hv; exact ⟨_, hx, .nil⟩
  | a :: l, k, r, hx, vs, hv => by
    cases hv with
    | cons h1 h2 =>
      obtain ⟨x, hx, h3⟩ := relist_ok h hz hx h1
      obtain ⟨q, hx, h4⟩ := relistL_ok h hz hx h2
      exact ⟨_, hx, .cons h3 h4⟩
theorem relistT_ok {γ : Type} (h : Rel E1 s1 w1) (hz : ∀ r b base i, E1.loc r = some (b, base) → E3.z b i = w1.cell? ⟨b, i, none⟩) {a : AV} {k : AV → Option γ} {r : γ} (hx : relistT s1 a k = some r) {v : Value} (hv : VR E1 a v) : ∃ x, k x = some r ∧ VR E3 x v := by
  unfold relistT at hx
  split at hx
  · cases hv with
    | tup hl => cases hl with
      | cons h1 h2 => cases h1 with
        | agg h1 => cases h2 with
          | cons h2 h3 =>
            cases h3
            obtain ⟨q, hx, k1⟩ := relistL_ok h hz hx h1
            obtain ⟨x, hx, k2⟩ := relist_ok h hz hx h2
            exact ⟨_, hx, .tup (.cons (.agg k1) (.cons k2 .nil))⟩
  · cases hv with
    | tup hl =>
      obtain ⟨q, hx, h1⟩ := relistL_ok h hz hx hl
      exact ⟨_, hx, .tup h1⟩
  · exact relist_ok h hz hx hv
end
/-! ## The law -/
def methX (F : Hid → List AV → Option (Bool × AV × Hid)) : List AV → St → Res := fun args s =>
  match findH s args with
  | some n => match s.get n with
    | some (.hid d) => match convML s n args fun as => F d as with
      | some p => bif p.1 then .ret p.2.1 (s.set n (.hid p.2.2)) else .fail
      | none => .fail
    | _ => .fail
  | none => .fail
def methK {β : Type} (F : Hid → List AV → Option (Bool × AV × Hid)) : List AV → St → (Res → Option β) → Option β := fun args s kr =>
  match findH s args with
  | some n => match s.get n with
    | some (.hid d) => convML s n args fun as => match F d as with
      | some p => ifK p.1 (kr (.ret p.2.1 (s.set n (.hid p.2.2))))
      | none => none
    | _ => none
  | none => none
theorem convM_eq {γ δ : Type} {s : St} {n : Nat} {a : AV} {k : AV → Option γ} {r : γ} (h : convM s n a k = some r) : ∃ x, k x = some r ∧ ∀ (k' : AV → Option δ), convM s n a k' = k' x := by
  unfold convM at h ⊢
  split at h
  · rename_i m
    rcases Bool.eq_false_or_eq_true (m.beq n) with hb | hb
    · rw [cond_of_true hb] at h; exact ⟨_, h, fun k' => by simp only [hb, cond_true]⟩
    · rw [cond_of_false hb] at h; cases h
  · rename_i m
    rcases Bool.eq_false_or_eq_true (m.beq n) with hb | hb
    · rw [cond_of_true hb] at h; exact ⟨_, h, fun k' => by simp only [hb, cond_true]⟩
    · rw [cond_of_false hb] at h; cases h
  · exact ⟨_, h, fun k' => rfl⟩
  · split at h
    · rename_i o ho; exact ⟨_, h, fun k' => by simp only [ho]⟩
    · cases h
  · split at h
    · rename_i o ho; exact ⟨_, h, fun k' => by simp only [ho]⟩
    · cases h
  · split at h
    · rename_i o ho
      obtain ⟨cs, hc, h⟩ := optK_some h
      obtain ⟨hb, h⟩ := ifK_some h
      exact ⟨_, h, fun k' => by simp only [ho, hc, optK, hb, ifK]⟩
    · cases h
  · obtain ⟨hb, h⟩ := ifK_some h
    exact ⟨_, h, fun k' => by simp only [hb, ifK]⟩
theorem convML_eq {γ δ : Type} {s : St} {n : Nat} : ∀ {l : List AV} {k : List AV → Option γ} {r : γ}, convML s n l k = some r → ∃ x, k x = some r ∧ ∀ (k' : List AV → Option δ), convML s n l k' = k' x
  | [], k, r, h => ⟨_, h, fun _ => rfl⟩
  | a :: l, k, r, h => by
    obtain ⟨x, h, h1⟩ := convM_eq (δ := δ) h
    obtain ⟨q, h, h2⟩ := convML_eq (δ := δ) h
    exact ⟨_, h, fun k' => by simp only [convML]; rw [h1, h2]⟩
theorem methK_le {β : Type} (F : Hid → List AV → Option (Bool × AV × Hid)) : ∀ args s (kr kr' : Res → Option β), (∀ r, Le (kr r) (kr' r)) → Le (methK F args s kr) (kr' (methX F args s)) := by
  intro args s kr kr' h x hx
  unfold methK at hx
  split at hx
  · rename_i n hn
    split at hx
    · rename_i d hd
      obtain ⟨as, h1, h2⟩ := convML_eq (δ := Bool × AV × Hid) hx
      split at h1
      · rename_i p hp
        obtain ⟨hc, h1⟩ := ifK_some h1
        have e : methX F args s = .ret p.2.1 (s.set n (.hid p.2.2)) := by
          simp only [methX, hn, hd]
          rw [h2, hp]
          simp only [hc, cond_true]
        rw [e]
        exact h _ x h1
      · cases h1
    · cases hx
  · cases hx
def MethOk (P : Program) (G : Glob) (f : FuncId) (F : Hid → List AV → Option (Bool × AV × Hid)) : Prop :=
  ∀ (args : List AV) (s : St) (E : Env) (w : World) (vs : List Value), Rel E s w → GlobOk E G w → VRL E args vs → ResOk P E s w f vs (methX F args s)
def Res.meth? : Res → Option (AV × Hid)
  | .ret v s => match s.get 0 with
    | some (.hid d) => relistT s v fun x => some (x, d)
    | _ => none
  | _ => none
theorem findH_hb {E : Env} {s : St} {w : World} (h : Rel E s w) {n : Nat} : ∀ {args : List AV} {vs : List Value}, VRL E args vs → findH s args = some n → ∃ b, E.hb n = some b
  | [], _, _, e => by cases e
  | a :: l, _, .cons h1 h2, e => by
    simp only [findH] at e
    split at e
    · rename_i m hm
      cases e
      have fromRow : ∀ {r off : Nat} {v : Value}, VR E (.ptr r off) v → (match rowAt s r with | some o => (match o.vals with | .hptr n :: _ => some n | _ => none) | none => none) = some n → ∃ b, E.hb n = some b := by
        intro r off v hv hm
        cases hv with
        | ptr off hloc =>
          split at hm
          · rename_i o ho
            split at hm
            · rename_i m q hq
              cases hm
              obtain ⟨ho1, ho2⟩ := rowAt_eq ho
              obtain ⟨c, ty, fz, g1, g2, g3, g4⟩ := h.row r o _ _ ho1 hloc
              obtain ⟨_, vs, k1, k2⟩ := g4 ho2
              rw [hq] at k1
              cases k1 with
              | cons p1 p2 => cases p1 with | hp e => exact ⟨_, e⟩
            · cases hm
          · cases hm
      unfold hidOf at hm
      split at hm
      · cases hm
        cases h1 with | hp e => exact ⟨_, e⟩
      · exact fromRow h1 hm
      · cases h1 with
        | fn ha hb => cases hb with | cons p1 p2 => exact fromRow p1 hm
      · cases hm
        cases h1 with
        | agg hl => cases hl with
          | cons p1 p2 => cases p1 with | hp e => exact ⟨_, e⟩
      · cases hm
        cases h1 with
        | ptrL off hc hk => cases hc with
          | cons p1 p2 => cases p1 with | hp e => exact ⟨_, e⟩
      · cases hm
    · exact findH_hb h h2 e
theorem meth_known {P : Program} {G : Glob} (hm : P.follows .mixedOrders = true) (hn : NoNG P) (hp : GlobPlain G) {X : Known} (hX : KnownOk P G X) {Y : KnownK (AV × Hid)} (hY : KnownKOk X Y) {D : Live} {m loops n : Nat} {f : FuncId} {F : Hid → List AV → Option (Bool × AV × Hid)}
    (hF : ∀ d as x d', F d as = some (true, x, d') → bodyY P G X Y loops n D Res.meth? m P.funcs[f]? as (St.one d) = some (x, d')) : MethOk P G f F := by
  intro args s E w vs h hG ha
  unfold methX
  split
  · rename_i k hk
    split
    · rename_i d hd
      split
      · rename_i p hx
        obtain ⟨c, x, d'⟩ := p
        cases c with
        | false => trivial
        | true =>
        simp only [cond_true]
        obtain ⟨b, hb⟩ := findH_hb h ha hk
        have hz : ∀ b o v, E.stay w b o = some v → (E.one k w).z b o = some v := fun _ _ _ e => e
        have hhb : ∀ b, E.hb k = some b → (E.one k w).hb 0 = some b := fun b e => by show (if 0 = 0 then E.hb k else none) = some b; rw [if_pos rfl]; exact e
        obtain ⟨as, hx, has⟩ := convML_ok h hz hhb hx ha
        have h3 := bodyY_le hY (hF d as x d' hx)
        have hr := bodyD_ok (D := D) hm hn (callN_ok hm hn hX loops n) m f as (St.one d) (E.one k w) w _ (h.one hd) (GlobOk.one h hp hG hz rfl) has
        generalize bodyD P G (callN P G X loops n) D m P.funcs[f]? as (St.one d) = r at h3 hr
        cases r with
        | ret y s1 =>
          simp only [Res.meth?] at h3
          split at h3
          · rename_i d1 hd1
            have fin : ∀ (v' : Value) (w' : World) (E' : Env), Step (E.one k w) (St.one d) w E' s1 w' → VR E' y v' → ∃ E2, Step E s w E2 (s.set k (.hid d')) w' ∧ VR E2 x v' := by
              intro v' w' E' hs hv
              have hst := Step.of_one h hd hb hs hd1
              have hB : ∀ b, (∃ r base, E'.loc r = some (b, base)) → w.heap.size ≤ b ∧ (∀ r base, (E.re k (E'.own 0)).loc r ≠ some (b, base)) ∧ ∀ n, ¬ (E.re k (E'.own 0)).own n b := by
                rintro b ⟨r, base, e⟩
                have hfresh : w.heap.size ≤ b := by
                  rcases hs.new r b base e with h1 | ⟨r0, base0, h1⟩
                  · exact h1
                  · cases h1
                refine ⟨hfresh, fun r2 base2 e2 => ?_, fun m e2 => ?_⟩
                · have := (h.lt r2 b base2 e2).2; omega
                · have e2 : (if m = k then E'.own 0 b else E.own m b) := e2
                  by_cases hmk : m = k
                  · rw [if_pos hmk] at e2; exact (hs.rel.own 0 b e2).2.1 r base e
                  · rw [if_neg hmk] at e2; have := (h.own m b e2).1; omega
              have hfz := Step.keptFrozen hst hB
              obtain ⟨x', e1, e2⟩ := relistT_ok (E3 := (E.re k (E'.own 0)).froze w' fun b => ∃ r base, E'.loc r = some (b, base)) hs.rel (fun r b base i e => if_pos ⟨r, base, e⟩) h3 hv
              cases e1
              exact ⟨_, hfz, e2⟩
            rcases hr with ⟨h4, h5⟩ | ⟨v', w', E', h4, h5, h6⟩
            · exact .inl ⟨h4, Calls.mono h5 fun e w' ⟨v', E', he, hs, hv⟩ => by
                obtain ⟨E2, k1, k2⟩ := fin v' w' E' hs hv
                exact ⟨v', E2, he, k1, k2⟩⟩
            · obtain ⟨E2, k1, k2⟩ := fin v' w' E' h5 h6
              exact .inr ⟨v', w', E2, h4, k1, k2⟩
          · cases h3
        | _ => cases h3
      · trivial
    · trivial
  · trivial
def orF (F1 F2 : Hid → List AV → Option (Bool × AV × Hid)) (d : Hid) (ar : List AV) : Option (Bool × AV × Hid) := match F1 d ar with | some p => some p | none => F2 d ar
theorem meth_or {P : Program} {G : Glob} {f : FuncId} {F1 F2 : Hid → List AV → Option (Bool × AV × Hid)} (h1 : MethOk P G f F1) (h2 : MethOk P G f F2) : MethOk P G f (orF F1 F2) := by
  intro args s E w vs h hG ha
  have k1 := h1 args s E w vs h hG ha
  have k2 := h2 args s E w vs h hG ha
  unfold methX at k1 k2 ⊢
  split
  · rename_i n hn
    simp only [hn] at k1 k2
    split
    · rename_i d hd
      simp only [hd] at k1 k2
      split
      · rename_i p hp
        obtain ⟨as, q1, q2⟩ := convML_eq (δ := Bool × AV × Hid) hp
        rw [q2] at k1 k2
        unfold orF at q1
        split at q1
        · rename_i p1 hp1
          cases q1
          rw [hp1] at k1
          exact k1
        · rw [q1] at k2
          exact k2
      · trivial
    · trivial
  · trivial
end Go.Am
end
section
namespace Go.Am
def cellV (s : St) (a : AV) : AV :=
  match a with
  | .sl r 0 len _ tight => match rowAt s r with
    | some o => bif Nat.blt 0 len then .lst (blurL o.vals) len tight false else .undef
    | none => .undef
  | a => bif a.plain then a else .undef
def cellsV (s : St) : List AV → List AV
  | [] => []
  | a :: l => cellV s a :: cellsV s l
def cellW (s : St) (a : AV) : AV :=
  match a with
  | .ptr r off => match rowAt s r with
    | some o => .ptrL (cellsV s o.vals) off
    | none => .undef
  | a => cellV s a
def cellsW (s : St) : List AV → List AV
  | [] => []
  | a :: l => cellW s a :: cellsW s l
section
variable {γ : Type}
def convV (s : St) (a : AV) (k : AV → Option γ) : Option γ :=
  match a with
  | .ptr r off => match rowAt s r with
    | some o => k (.ptrL (cellsV s o.vals) off)
    | none => none
  | .fn f [] [.ptr r off] => match rowAt s r with
    | some o => k (.fn f [] [.ptrL (cellsW s o.vals) off])
    | none => none
  | .sl r off len es tight => match rowAt s r with
    | some o => optK (fun cs => ifK (Nat.blt 0 len && AV.plains cs) (k (.lst cs len tight false))) (cutN (len * es) off o.vals)
    | none => none
  | a => ifK a.plain (k a)
def convVL (s : St) : List AV → (List AV → Option γ) → Option γ
  | [], k => k []
  | a :: l, k => convV s a fun x => convVL s l fun q => k (x :: q)
end
section
variable {E : Env} {s : St} {w : World} {E0 : Env}
theorem cellsV_ok (h : Rel E s w) (hz : ∀ b o v, E.stay w b o = some v → E0.z b o = some v) : ∀ {l : List AV} {r : List Value}, VRL E l r → VRL E0 (cellsV s l) r
  | [], _, .nil => .nil
  | a :: _, _, .cons h1 t => by
    refine .cons ?_ (cellsV_ok h hz t)
    unfold cellV
    split
    · rename_i r len es tight
      split
      · rename_i o ho
        rcases Bool.eq_false_or_eq_true (Nat.blt 0 len) with hb | hb
        · rw [cond_of_true hb]
          have hl0 : 0 < len := Nat.le_of_ble_eq_true hb
          cases h1 with
          | sl hloc hle ht ha hsome =>
            rename_i b base cap a
            obtain ⟨ea, _⟩ := ha (by omega)
            subst ea
            obtain ⟨ho1, ho2⟩ := rowAt_eq ho
            obtain ⟨c, ty, fz, g1, g2, g3, g4⟩ := h.row r o b base ho1 hloc
            obtain ⟨_, vs, k1, k2⟩ := g4 ho2
            refine .lst (blurL_ok (fun b o u e => hz b o u (stay_z h e)) k1) hle ht rfl (fun e => by cases e) fun _ => ⟨b, base, rfl, fun i u hu => hz _ _ _ ?_⟩
            rw [stay_at hloc, World.cell?, g1]
            exact k2 i u hu
        · rw [cond_of_false hb]; exact .undef _
      · exact .undef _
    · rcases Bool.eq_false_or_eq_true a.plain with hp | hp
      · rw [cond_of_true hp]; exact VR.plain (fun b o u e => hz b o u (stay_z h e)) h1 hp
      · rw [cond_of_false hp]; exact .undef _
theorem ptrV_ok (h : Rel E s w) (hz : ∀ b o v, E.stay w b o = some v → E0.z b o = some v) {f : List AV → List AV} (hf : ∀ {l : List AV} {r : List Value}, VRL E l r → VRL E0 (f l) r) {r off : Nat} {v : Value} (hv : VR E (.ptr r off) v) {o : Row} (ho : rowAt s r = some o) : VR E0 (.ptrL (f o.vals) off) v := by
  cases hv with
  | ptr off hloc =>
    rename_i b base
    obtain ⟨ho1, ho2⟩ := rowAt_eq ho
    obtain ⟨c, ty, fz, g1, g2, g3, g4⟩ := h.row r o b base ho1 hloc
    obtain ⟨_, vs, k1, k2⟩ := g4 ho2
    refine .ptrL off (hf k1) fun i u hu => hz _ _ _ ?_
    rw [stay_at hloc, World.cell?, g1]
    exact k2 i u hu
theorem cellsW_ok (h : Rel E s w) (hz : ∀ b o v, E.stay w b o = some v → E0.z b o = some v) : ∀ {l : List AV} {r : List Value}, VRL E l r → VRL E0 (cellsW s l) r
  | [], _, .nil => .nil
  | a :: _, _, .cons h1 t => by
    refine .cons ?_ (cellsW_ok h hz t)
    unfold cellW
    split
    · split
      · rename_i o ho; exact ptrV_ok h hz (fun hl => cellsV_ok h hz hl) h1 ho
      · exact .undef _
    · have := cellsV_ok h hz (.cons h1 .nil)
      cases this with | cons h2 _ => exact h2
theorem convV_ok {γ : Type} (h : Rel E s w) (hz : ∀ b o v, E.stay w b o = some v → E0.z b o = some v) {a : AV} {k : AV → Option γ} {r : γ} (hx : convV s a k = some r) {v : Value} (hv : VR E a v) : ∃ x, k x = some r ∧ VR E0 x v := by
  unfold convV at hx
  split at hx
  · rename_i r off
    split at hx
    · rename_i o ho; exact ⟨_, hx, ptrV_ok h hz (fun hl => cellsV_ok h hz hl) hv ho⟩
    · cases hx
  · split at hx
    · rename_i o ho
      refine ⟨_, hx, ?_⟩
      cases hv with
      | fn ha hb =>
        cases ha
        cases hb with
        | cons h1 h2 => cases h2; exact .fn .nil (.cons (ptrV_ok h hz (fun hl => cellsW_ok h hz hl) h1 ho) .nil)
    · cases hx
  · rename_i r off len es tight
    split at hx
    · rename_i o ho
      obtain ⟨cs, hc, hx⟩ := optK_some hx
      obtain ⟨hb, hx⟩ := ifK_some hx
      refine ⟨_, hx, convA_ok h hz (a := .sl r off len es tight) ?_ hv⟩
      simp only [convA, ho, hc, hb, cond_true]
    · cases hx
  · obtain ⟨hb, hx⟩ := ifK_some hx
    exact ⟨_, hx, VR.plain (fun b o u e => hz b o u (stay_z h e)) hv hb⟩
theorem convVL_ok {γ : Type} (h : Rel E s w) (hz : ∀ b o v, E.stay w b o = some v → E0.z b o = some v) : ∀ {l : List AV} {k : List AV → Option γ} {r : γ}, convVL s l k = some r → ∀ {vs : List Value}, VRL E l vs → ∃ q, k q = some r ∧ VRL E0 q vs
  | [], k, r, hx, vs, hv => by cases hv; exact ⟨_, hx, .nil⟩
  | a :: l, k, r, hx, vs, hv => by
    cases hv with
    | cons h1 h2 =>
      obtain ⟨x, hx, h3⟩ := convV_ok h hz hx h1
      obtain ⟨q, hx, h4⟩ := convVL_ok h hz hx h2
      exact ⟨_, hx, .cons h3 h4⟩
end
def viewX (F : List AV → Option (Bool × AV)) : List AV → St → Res := fun args s =>
  match convVL s args fun as => F as with
  | some p => bif p.1 then .ret p.2 s else .fail
  | none => .fail
def viewK {β : Type} (F : List AV → Option (Bool × AV)) : List AV → St → (Res → Option β) → Option β := fun args s kr =>
  convVL s args fun as => match F as with
    | some p => ifK p.1 (kr (.ret p.2 s))
    | none => none
theorem convV_eq {γ δ : Type} {s : St} {a : AV} {k : AV → Option γ} {r : γ} (h : convV s a k = some r) : ∃ x, k x = some r ∧ ∀ (k' : AV → Option δ), convV s a k' = k' x := by
  unfold convV at h ⊢
  split at h
  · split at h
    · rename_i o ho; exact ⟨_, h, fun k' => by simp only [ho]⟩
    · cases h
  · split at h
    · rename_i o ho; exact ⟨_, h, fun k' => by simp only [ho]⟩
    · cases h
  · split at h
    · rename_i o ho
      obtain ⟨cs, hc, h⟩ := optK_some h
      obtain ⟨hb, h⟩ := ifK_some h
      exact ⟨_, h, fun k' => by simp only [ho, hc, optK, hb, ifK]⟩
    · cases h
  · obtain ⟨hb, h⟩ := ifK_some h
    exact ⟨_, h, fun k' => by simp only [hb, ifK]⟩
theorem convVL_eq {γ δ : Type} {s : St} : ∀ {l : List AV} {k : List AV → Option γ} {r : γ}, convVL s l k = some r → ∃ x, k x = some r ∧ ∀ (k' : List AV → Option δ), convVL s l k' = k' x
  | [], k, r, h => ⟨_, h, fun _ => rfl⟩
  | a :: l, k, r, h => by
    obtain ⟨x, h, h1⟩ := convV_eq (δ := δ) h
    obtain ⟨q, h, h2⟩ := convVL_eq (δ := δ) h
    exact ⟨_, h, fun k' => by simp only [convVL]; rw [h1, h2]⟩
theorem viewK_le {β : Type} (F : List AV → Option (Bool × AV)) : ∀ args s (kr kr' : Res → Option β), (∀ r, Le (kr r) (kr' r)) → Le (viewK F args s kr) (kr' (viewX F args s)) := by
  intro args s kr kr' h x hx
  unfold viewK at hx
  obtain ⟨as, h1, h2⟩ := convVL_eq (δ := Bool × AV) hx
  split at h1
  · rename_i p hp
    obtain ⟨hc, h1⟩ := ifK_some h1
    have e : viewX F args s = .ret p.2 s := by
      simp only [viewX]
      rw [h2, hp]
      simp only [hc, cond_true]
    rw [e]
    exact h _ x h1
  · cases h1
def ViewOk (P : Program) (G : Glob) (f : FuncId) (F : List AV → Option (Bool × AV)) : Prop :=
  ∀ (args : List AV) (s : St) (E : Env) (w : World) (vs : List Value), Rel E s w → GlobOk E G w → VRL E args vs → ResOk P E s w f vs (viewX F args s)
theorem Step.seen {E E0 E1 : Env} {s s1 : St} {w w' : World} (h0 : Rel E s w) (h : Step E0 St.empty w E1 s1 w') (hl : ∀ r, E0.loc r = none) (ho : ∀ n c, ¬ E0.own n c) (hz : ∀ b o v, E.stay w b o = some v → E0.z b o = some v) : Step E s w E s w' := by
  have hfr : ∀ b, b < w.heap.size → w'.heap[b]? = w.heap[b]? := fun b hb => h.fr b hb (fun r base e => by rw [hl r] at e; cases e) (fun n e => ho n b e)
  refine ⟨.refl E, fun _ _ => rfl, fun r b base e => .inr ⟨r, base, e⟩, ?_, fun _ _ _ _ _ => rfl, Nat.le_refl _, fun b hb _ _ => hfr b hb, h.os, h.tape, h.output, h.size, fun _ _ e => .inl e, fun _ d e => ⟨d, e⟩, fun _ _ _ e => .inl e⟩
  refine ⟨h0.wf, fun r b base e => ⟨(h0.lt r b base e).1, Nat.lt_of_lt_of_le (h0.lt r b base e).2 h.size⟩, h0.obj, fun b o v e => h.rel.z b o v (h.le.z b o v (hz b o v (stay_z h0 e))), h0.zap, ?_, ?_, h0.iter, h0.coh, h0.b0,
    fun n d b e eb w1 hw => h0.hid n d b e eb w1 fun k hk => (hw k hk).trans (hfr k (h0.own n k hk).1), fun n k hk => ⟨Nat.lt_of_lt_of_le (h0.own n k hk).1 h.size, (h0.own n k hk).2⟩, h0.hlt⟩
  · intro r o b base e el
    rw [hfr b (h0.lt r b base el).2]
    exact h0.row r o b base e el
  · intro r es b base e el
    rw [hfr b (h0.lt r b base el).2]
    exact h0.mapo r es b base e el
theorem view_known {P : Program} {G : Glob} (hm : P.follows .mixedOrders = true) (hn : NoNG P) (hp : GlobPlain G) {X : Known} (hX : KnownOk P G X) {Y : KnownK AV} (hY : KnownKOk X Y) {D : Live} {m loops n : Nat} {f : FuncId} {F : List AV → Option (Bool × AV)}
    (hF : ∀ as x, F as = some (true, x) → x.flat = true ∧ bodyY P G X Y loops n D Res.val? m P.funcs[f]? as St.empty = some x) : ViewOk P G f F := by
  intro args s E w vs h hG ha
  unfold viewX
  split
  · rename_i p hx
    obtain ⟨cc, x⟩ := p
    cases cc with
    | false => trivial
    | true =>
    simp only [cond_true]
    have hz : ∀ b o v, E.stay w b o = some v → (E.look w).z b o = some v := fun _ _ _ e => e
    obtain ⟨as, hx, has⟩ := convVL_ok h hz hx ha
    obtain ⟨h2, h3⟩ := hF as x hx
    have h3 := bodyY_le hY h3
    have this := bodyD_ok (D := D) hm hn (callN_ok hm hn hX loops n) m f as St.empty (E.look w) w vs h.look (GlobOk.one h hp hG hz rfl) has
    cases hb : bodyD P G (callN P G X loops n) D m P.funcs[f]? as St.empty with
    | ret y s1 =>
      rw [hb] at h3 this
      simp only [Res.val?, Option.some.injEq] at h3
      subst h3
      have hst : ∀ {E1 : Env} {w' : World}, Step (E.look w) St.empty w E1 s1 w' → Step E s w E s w' := fun hs => .seen h hs (fun _ => rfl) (fun _ _ e => e) hz
      rcases this with ⟨h4, h5⟩ | ⟨v', w', E', h4, h5, h6⟩
      · exact .inl ⟨h4, Calls.mono h5 fun e w' ⟨v', E', he, hs, hv⟩ => ⟨v', E, he, hst hs, hv.flat h2⟩⟩
      · exact .inr ⟨v', w', E, h4, hst h5, h6.flat h2⟩
    | _ => rw [hb] at h3; cases h3
  · trivial
/-! ## What is known by its meaning, seen as cells that stay -/
def Env.cells (z : Nat → Nat → Option Value) (H : Hid → Nat → (Nat → Prop) → World → Prop) : Env := { Env.none with z := z, H := H }
open Classical in
noncomputable def Env.both (E : Env) (w : World) (z : Nat → Nat → Option Value) : Env := { Env.none with z := fun b o => match z b o with | some v => some v | .none => E.stay w b o, H := E.H }
theorem see_known {P : Program} {G : Glob} (hm : P.follows .mixedOrders = true) (hn : NoNG P) (hp : GlobPlain G) {X : Known} (hX : KnownOk P G X) {Y : KnownK AV} (hY : KnownKOk X Y) {D : Live} {m loops n : Nat} {f : FuncId} {F : Hid → List AV → Option (Bool × AV × Hid)}
    {View : Hid → List AV → Prop} (hH : ∀ d b own w, G.H d b own w → ∃ cs vs z, View d cs ∧ VRL (Env.cells z G.H) cs vs ∧ (∀ i v, vs[i]? = some v → z b i = some v) ∧ ∀ c o v, z c o = some v → w.cell? ⟨c, o, none⟩ = some v ∧ own c)
    (hF : ∀ d cs as x d', View d cs → F d as = some (true, x, d') → ∃ rest, as = .hptr 0 :: rest ∧ AV.plains rest = true ∧ d' = d ∧ x.flat = true ∧ bodyY P G X Y loops n D Res.val? m P.funcs[f]? (.ptrL cs 0 :: rest) St.empty = some x) : MethOk P G f F := by
  intro args s E w vs h hG ha
  unfold methX
  split
  · rename_i k hk
    split
    · rename_i d hd
      split
      · rename_i p hx
        obtain ⟨cc, x, d'⟩ := p
        cases cc with
        | false => trivial
        | true =>
        simp only [cond_true]
        obtain ⟨b, hb⟩ := findH_hb h ha hk
        have hz1 : ∀ b o v, E.stay w b o = some v → (E.one k w).z b o = some v := fun _ _ _ e => e
        have hhb : ∀ b, E.hb k = some b → (E.one k w).hb 0 = some b := fun b e => by show (if 0 = 0 then E.hb k else none) = some b; rw [if_pos rfl]; exact e
        obtain ⟨as, hx, has⟩ := convML_ok h hz1 hhb hx ha
        have hHd := h.hid k d b hd hb w (fun _ _ => rfl)
        rw [hG.2] at hHd
        obtain ⟨cs, us, z, hv1, hv2, hv3, hv4⟩ := hH d b _ w hHd
        obtain ⟨rest, rfl, hpl, rfl, hfl, hrun⟩ := hF d cs as x d' hv1 hx
        have h3 := bodyY_le hY hrun
        cases has with
        | cons a1 a2 =>
          cases a1 with
          | hp e0 =>
            rename_i b0
            have e0 : (if 0 = 0 then E.hb k else none) = some b0 := e0
            rw [if_pos rfl, hb] at e0
            cases e0
            have hzz : ∀ c o v, E.stay w c o = some v → (E.both w z).z c o = some v := fun c o v e => by
              show (match z c o with | some v => some v | none => E.stay w c o) = some v
              cases hzc : z c o with
              | none => exact e
              | some u => rw [stay_own h (hv4 c o u hzc).2] at e; cases e
            have hzv : ∀ c o v, z c o = some v → (E.both w z).z c o = some v := fun c o v e => by
              show (match z c o with | some v => some v | none => E.stay w c o) = some v
              rw [e]
            have hrel : Rel (E.both w z) St.empty w := by
              refine ⟨.empty, fun r b base e => (by cases e), fun r p e => (by cases e), fun c o v e => ?_, fun b o v r base _ e => (by cases e), fun r o b base _ e => (by cases e), fun r es b base _ e => (by cases e), fun r x n b base _ e => (by cases e), fun r1 r2 b b1 b2 e => (by cases e), fun r o b base _ e => (by cases e), fun n d b _ e => (by cases e), fun n c e => e.elim, fun n b e => (by cases e)⟩
              have e : (match z c o with | some v => some v | none => E.stay w c o) = some v := e
              split at e
              · rename_i u hu; cases e; exact (hv4 c o v hu).1
              · exact stay_cell h e
            have hargs : VRL (E.both w z) (.ptrL cs 0 :: rest) _ := .cons (.ptrL (base := 0) 0 (VRL.reH (E := Env.cells z G.H) (z := (E.both w z).z) (H := E.H) (fun c o v e => hzv c o v e) hv2) (fun i v e => by rw [Nat.zero_add]; exact hzv b i v (hv3 i v e)))
              (VRL.plain (E := E.both w z) (E1 := E.one k w) (fun c o v e => hzz c o v e) a2 hpl)
            have this := bodyD_ok (D := D) hm hn (callN_ok hm hn hX loops n) m f _ St.empty (E.both w z) w _ hrel (GlobOk.one h hp hG hzz rfl) hargs
            have hself : s.set k (.hid d') = s := by
              unfold St.set
              rw [show s.heap.set k (.hid d') = s.heap from Tr.setP_self hd]
            rw [hself]
            cases hbd : bodyD P G (callN P G X loops n) D m P.funcs[f]? (.ptrL cs 0 :: rest) St.empty with
            | ret y s1 =>
              rw [hbd] at h3 this
              simp only [Res.val?, Option.some.injEq] at h3
              subst h3
              have hst : ∀ {E1 : Env} {w' : World}, Step (E.both w z) St.empty w E1 s1 w' → Step E s w E s w' := fun hs => .seen h hs (fun _ => rfl) (fun _ _ e => e) hzz
              rcases this with ⟨h4, h5⟩ | ⟨v', w', E', h4, h5, h6⟩
              · exact .inl ⟨h4, Calls.mono h5 fun e w' ⟨v', E', he, hs, hv⟩ => ⟨v', E, he, hst hs, hv.flat hfl⟩⟩
              · exact .inr ⟨v', w', E, h4, hst h5, h6.flat hfl⟩
            | _ => rw [hbd] at h3; cases h3
      · trivial
    · trivial
  · trivial
end Go.Am
end
section
namespace Go.Am
def Env.born (E : Env) (n b : Nat) (own : Nat → Prop) : Env :=
  { E with hb := fun m => if m = n then some b else E.hb m, own := fun m c => if m = n then own c else E.own m c }
theorem Step.born {E : Env} {s : St} {w w' : World} (h : Rel E s w) {d : Hid} {b : Nat} {own : Nat → Prop} (hold : ∀ c, c < w.heap.size → w'.heap[c]? = w.heap[c]?) (hsz : w.heap.size ≤ w'.heap.size)
    (hos : w'.os = w.os) (htp : w'.tape = w.tape) (hout : w'.output = w.output) (hown : ∀ c, own c → c < w'.heap.size ∧ w.heap.size ≤ c) (hH : ∀ w1 : World, (∀ c, own c → w1.heap[c]? = w'.heap[c]?) → E.H d b own w1) :
    Step E s w (E.born s.next b own) (s.push (.hid d)) w' := by
  have hhb : E.hb s.next = none := by
    cases e : E.hb s.next with
    | none => rfl
    | some b => have := (h.hlt _ b e).1; omega
  have hle : E.le (E.born s.next b own) := ⟨fun _ _ e => e, fun _ _ _ e => e, fun _ _ _ _ => rfl, fun m b0 e => by
    show (if m = s.next then some b else E.hb m) = some b0
    rw [if_neg (fun e2 => by rw [e2, hhb] at e; cases e)]; exact e, rfl⟩
  have hwf : Wf (s.push (.hid d)) := h.wf.push_other _ (by intro o; simp)
  have hp := h.push (.hid d) hwf
  have hownlt : ∀ m c, E.own m c → ¬ own c := fun m c e ho => by
    have := (h.own m c e).1
    have := (hown c ho).2
    omega
  refine ⟨hle, fun _ _ => rfl, fun r c base e => .inr ⟨r, base, e⟩, ?_, fun r hr _ _ _ => get_push_old hr, Nat.le_succ _, fun c hc _ _ => hold c hc, hos, htp, hout, hsz, fun m c e => ?_, fun m d1 e => ⟨d1, by rw [get_push_old (h.wf.lt e)]; exact e⟩, fun _ _ _ e => .inl e⟩
  · refine ⟨hwf, fun r c base e => ⟨(hp.lt r c base e).1, Nat.lt_of_lt_of_le (hp.lt r c base e).2 hsz⟩, hp.obj, fun c o v e => ?_, h.zap, fun r o c base e el => ?_, fun r es c base e el => ?_, hp.iter, hp.coh, hp.b0, fun m d1 b1 e eb w1 hw => ?_, fun m c e => ?_, fun m b1 e => ?_⟩
    · have h1 := h.z c o v e
      exact (World.cell?_of_block (w := w) (hold c (World.block_lt_of_cell? w _ h1))).trans h1
    · obtain ⟨c', ty, fz, g1, g2, g3, g4⟩ := hp.row r o c base e el
      refine ⟨c', ty, fz, (hold c (h.lt r c base el).2).trans g1, g2, g3, fun hv => ?_⟩
      obtain ⟨hz, vs, k1, k2⟩ := g4 hv
      exact ⟨hz, vs, VRL.mono hle k1, k2⟩
    · obtain ⟨ents, clock, g1, g2, g3⟩ := hp.mapo r es c base e el
      exact ⟨ents, clock, (hold c (h.lt r c base el).2).trans g1, VRL.mono hle g2, VRL.mono hle g3⟩
    · have eb : (if m = s.next then some b else E.hb m) = some b1 := eb
      by_cases hm : m = s.next
      · subst hm
        rw [if_pos rfl] at eb
        cases eb
        rw [get_push_new] at e
        cases e
        have e2 : (E.born s.next b own).own s.next = own := by funext c; exact if_pos rfl
        rw [e2] at hw ⊢
        exact hH w1 hw
      · rw [if_neg hm] at eb
        rw [get_push_old (h.hlt m b1 eb).1] at e
        have e2 : (E.born s.next b own).own m = E.own m := by funext c; exact if_neg hm
        rw [e2] at hw ⊢
        exact h.hid m d1 b1 e eb w1 fun c hc => (hw c hc).trans (hold c (h.own m c hc).1)
    · have e : (if m = s.next then own c else E.own m c) := e
      by_cases hm : m = s.next
      · rw [if_pos hm] at e
        obtain ⟨q1, q2⟩ := hown c e
        refine ⟨q1, fun r base el => ?_, fun o => ?_, fun m' e' => ?_⟩
        · have := (h.lt r c base el).2; omega
        · show E.z c o = none
          cases hz : E.z c o with
          | none => rfl
          | some v => have := World.block_lt_of_cell? w _ (h.z c o v hz); simp at this; omega
        · have e' : (if m' = s.next then own c else E.own m' c) := e'
          by_cases hm' : m' = s.next
          · rw [hm', hm]
          · rw [if_neg hm'] at e'; exact absurd e (hownlt m' c e')
      · rw [if_neg hm] at e
        obtain ⟨q1, q2, q3, q4⟩ := h.own m c e
        refine ⟨Nat.lt_of_lt_of_le q1 hsz, q2, q3, fun m' e' => ?_⟩
        have e' : (if m' = s.next then own c else E.own m' c) := e'
        by_cases hm' : m' = s.next
        · rw [if_pos hm'] at e'; exact absurd e' (hownlt m c e)
        · rw [if_neg hm'] at e'; exact q4 m' e'
    · have e : (if m = s.next then some b else E.hb m) = some b1 := e
      by_cases hm : m = s.next
      · subst hm; exact ⟨Nat.lt_succ_self _, d, get_push_new⟩
      · rw [if_neg hm] at e; exact hp.hlt m b1 e
  · have e : (if m = s.next then own c else E.own m c) := e
    by_cases hm : m = s.next
    · rw [if_pos hm] at e; exact .inr (hown c e).2
    · rw [if_neg hm] at e; exact .inl e
def newX (F : List AV → Option (Hid × List AV)) : List AV → St → Res := fun args s =>
  match F args with
  | some (d, xs) => .ret (.tup (.hptr s.next :: xs)) (s.push (.hid d))
  | none => .fail
def BornOk (P : Program) (G : Glob) (f : FuncId) (F : List AV → Option (Hid × List AV)) : Prop :=
  ∀ (args : List AV) (s : St) (E : Env) (w : World) (vs : List Value), Rel E s w → GlobOk E G w → VRL E args vs → ResOk P E s w f vs (newX F args s)
end Go.Am
end
section
namespace Go.Am
def rowB (i : Nat) (ty : TypeId) (vals : List AV) : Row := { vals := vals, root := i, pos := 1, ep := 0, fep := 0, ext := 1 + vals.length, solo := true, ty := ty }
def rowsB : List (TypeId × List AV) → Nat → List Row
  | [], _ => []
  | p :: l, n => rowB n p.1 p.2 :: rowsB l (n + 1)
def St.rows (l : List (TypeId × List AV)) : St := ⟨l.length, addH (rowsB l 0) 0 .nil⟩
theorem rowsB_len : ∀ (l : List (TypeId × List AV)) (n : Nat), (rowsB l n).length = l.length
  | [], _ => rfl
  | _ :: l, n => by simp [rowsB, rowsB_len l]
theorem rowsB_get : ∀ (l : List (TypeId × List AV)) (n i : Nat), (rowsB l n)[i]? = (l[i]?).map fun p => rowB (n + i) p.1 p.2
  | [], _, _ => by simp [rowsB]
  | p :: l, n, 0 => by simp [rowsB]
  | p :: l, n, i + 1 => by simp only [rowsB, List.getElem?_cons_succ]; rw [rowsB_get l (n + 1) i, show n + 1 + i = n + (i + 1) by omega]
theorem rows_get (l : List (TypeId × List AV)) (r : Nat) : (St.rows l).get r = (l[r]?).map fun p => .row (rowB r p.1 p.2) := by
  unfold St.rows St.get
  simp only
  rw [addH_get, rowsB_len]
  by_cases h : 0 ≤ r ∧ r < 0 + l.length
  · rw [if_pos h, Nat.sub_zero, rowsB_get, Nat.zero_add]
    cases l[r]? <;> rfl
  · rw [if_neg h, List.getElem?_eq_none (by omega)]
    exact Tr.getP_nil _
structure Lay where
  b : Nat
  base : Nat
  ty : TypeId
  vals : List AV
def Lay.of (l : List Lay) : List (TypeId × List AV) := l.map fun p => (p.ty, p.vals)
def Env.lay (l : List Lay) (z : Nat → Nat → Option Value) (w : World) (H : Hid → Nat → (Nat → Prop) → World → Prop) : Env :=
  { loc := fun r => (l[r]?).map fun p => (p.b, p.base), z := z, bsz := fun b => match w.heap[b]? with | some (.cells c _ _) => c.size | _ => 0, hb := fun _ => .none, own := fun _ _ => False, H := H }
def LayOk (E : Env) (w : World) (p : Lay) : Prop :=
  ∃ c, w.heap[p.b]? = some (.cells c p.ty (0, 0)) ∧ p.base + p.vals.length ≤ c.size ∧ ∃ vs, VRL E p.vals vs ∧ ∀ i v, vs[i]? = some v → c[p.base + i]? = some v
theorem Rel.lay {l : List Lay} {z : Nat → Nat → Option Value} {w : World} {H : Hid → Nat → (Nat → Prop) → World → Prop} (h1 : ∀ p ∈ l, LayOk (Env.lay l z w H) w p) (h2 : ∀ (i j : Nat) (p q : Lay), l[i]? = some p → l[j]? = some q → p.b = q.b → i = j)
    (h3 : ∀ b o v, z b o = some v → w.cell? ⟨b, o, none⟩ = some v ∧ ∀ p ∈ l, p.b ≠ b) : Rel (Env.lay l z w H) (St.rows (Lay.of l)) w := by
  have hget : ∀ r, (St.rows (Lay.of l)).get r = (l[r]?).map fun p => .row (rowB r p.ty p.vals) := fun r => by
    rw [rows_get, Lay.of, List.getElem?_map, Option.map_map]; rfl
  have hnext : (St.rows (Lay.of l)).next = l.length := by simp [St.rows, Lay.of]
  have hloc : ∀ {r b base : Nat}, (Env.lay l z w H).loc r = some (b, base) → ∃ p, l[r]? = some p ∧ p.b = b ∧ p.base = base := fun {r b base} e => by
    have e : (l[r]?).map (fun p => (p.b, p.base)) = some (b, base) := e
    cases hp : l[r]? with
    | none => rw [hp] at e; cases e
    | some p => rw [hp] at e; cases e; exact ⟨p, rfl, rfl, rfl⟩
  have hrow : ∀ {r : Nat} {o : Row}, (St.rows (Lay.of l)).get r = some (.row o) → ∃ p, l[r]? = some p ∧ o = rowB r p.ty p.vals := fun {r o} e => by
    rw [hget] at e
    cases hp : l[r]? with
    | none => rw [hp] at e; cases e
    | some p => rw [hp] at e; cases e; exact ⟨p, rfl, rfl⟩
  have hlt : ∀ {r : Nat} {p : Lay}, l[r]? = some p → r < l.length := fun {r p} e => by
    rcases Nat.lt_or_ge r l.length with h | h
    · exact h
    · rw [List.getElem?_eq_none h] at e; cases e
  have blk : ∀ {p : Lay}, p ∈ l → p.b < w.heap.size := fun {p} hp => by
    obtain ⟨c, g1, _⟩ := h1 p hp
    rcases Nat.lt_or_ge p.b w.heap.size with h | h
    · exact h
    · rw [Array.getElem?_eq_none h] at g1; cases g1
  refine ⟨⟨fun r hr => ?_, fun r o e => ?_, fun r o e hs => ?_, fun r o e => ?_⟩, fun r b base e => ?_, fun r q e => ?_, fun b o v e => (h3 b o v e).1, fun b o v r base e el => ?_, fun r o b base e el => ?_, fun r es b base e el => ?_, fun r x n b base e el => ?_,
    fun r1 r2 b b1 b2 e1 e2 => ?_, fun r o b base e el hq hp => ?_, fun n d b e eb w1 hw => (by cases eb), fun n c hc => hc.elim, fun n b eb => (by cases eb)⟩
  · rw [hget, List.getElem?_eq_none (by rw [hnext] at hr; exact hr)]; rfl
  · obtain ⟨p, hp, rfl⟩ := hrow e
    exact ⟨rowB r p.ty p.vals, e, rfl, Nat.le_refl _, fun _ => Nat.le_refl _⟩
  · obtain ⟨p, hp, rfl⟩ := hrow e
    refine ⟨rfl, fun r2 o2 e2 h5 => ?_⟩
    obtain ⟨p2, hp2, rfl⟩ := hrow e2
    exact h5
  · obtain ⟨p, hp, rfl⟩ := hrow e
    exact Nat.le_refl _
  · obtain ⟨p, hp, rfl, rfl⟩ := hloc e
    exact ⟨by rw [hnext]; exact hlt hp, blk (List.mem_of_getElem? hp)⟩
  · obtain ⟨b, base⟩ := q
    obtain ⟨p, hp, _, _⟩ := hloc e
    exact ⟨_, by rw [hget, hp]; rfl⟩
  · obtain ⟨p, hp, rfl, rfl⟩ := hloc el
    exact (h3 _ o v e).2 p (List.mem_of_getElem? hp) rfl
  · obtain ⟨p, hp, rfl, rfl⟩ := hloc el
    obtain ⟨p', hp', rfl⟩ := hrow e
    rw [hp] at hp'; cases hp'
    obtain ⟨c, g1, g2, vs, g3, g4⟩ := h1 p (List.mem_of_getElem? hp)
    refine ⟨c, p.ty, (0, 0), g1, ?_, g2, fun _ => ⟨⟨rfl, rfl⟩, vs, g3, g4⟩⟩
    show c.size = (match w.heap[p.b]? with | some (.cells c _ _) => c.size | _ => 0)
    rw [g1]
  · rw [hget] at e
    cases hp : l[r]? with
    | none => rw [hp] at e; cases e
    | some p => rw [hp] at e; cases e
  · rw [hget] at e
    cases hp : l[r]? with
    | none => rw [hp] at e; cases e
    | some p => rw [hp] at e; cases e
  · obtain ⟨p, hp, rfl, rfl⟩ := hloc e1
    obtain ⟨q, hq, e3, rfl⟩ := hloc e2
    exact .inl (h2 r1 r2 p q hp hq e3.symm)
  · obtain ⟨p, hp, rfl⟩ := hrow e
    cases hp
/-! ## The law -/
open Classical in
noncomputable def zBoth (E : Env) (w : World) (z : Nat → Nat → Option Value) : Nat → Nat → Option Value := fun b o => match z b o with | some v => some v | none => E.stay w b o
theorem pres_knownA {P : Program} {G : Glob} (hm : P.follows .mixedOrders = true) (hn : NoNG P) (hp : GlobPlain G) {X : Known} (hX : KnownOk P G X) {D : Live} {m loops n : Nat} {f : FuncId} {F : Hid → List AV → Option (Bool × AV × Hid)}
    {Sees : List AV → Hid → Nat → (Nat → Prop) → World → List Lay → Prop} {Ends : List AV → Hid → Hid → List Lay → St → Prop}
    (hH : ∀ as d b own w x d', F d as = some (true, x, d') → G.H d b own w → ∃ l z, Sees as d b own w l ∧ (∃ p, l[0]? = some p ∧ p.b = b ∧ p.base = 0) ∧ (∀ p ∈ l, own p.b) ∧ (∀ p ∈ l, LayOk (Env.lay l z w G.H) w p) ∧ (∀ (i j : Nat) (p q : Lay), l[i]? = some p → l[j]? = some q → p.b = q.b → i = j) ∧
      (∀ c o v, z c o = some v → w.cell? ⟨c, o, none⟩ = some v ∧ own c ∧ ∀ p ∈ l, p.b ≠ c))
    (hF : ∀ d b own w l as x d', Sees as d b own w l → F d as = some (true, x, d') → ∃ rest, as = .hptr 0 :: rest ∧ AV.plains rest = true ∧ x.flat = true ∧ ∃ s', bodyD P G (callN P G X loops n) D m P.funcs[f]? (.ptr 0 0 :: rest) (St.rows (Lay.of l)) = .ret x s' ∧ Ends as d d' l s')
    (hE : ∀ as d d' l s' b own w E' w' z, Sees as d b own w l → Ends as d d' l s' → (∃ p, l[0]? = some p ∧ p.b = b ∧ p.base = 0) → (∀ p ∈ l, own p.b) → Step (Env.lay l z w G.H) (St.rows (Lay.of l)) w E' s' w' → (∀ c, own c → c < w.heap.size) →
      (∀ c, c < w.heap.size → (∀ p ∈ l, p.b ≠ c) → w'.heap[c]? = w.heap[c]?) → ∃ own', (∀ c, own' c → c < w'.heap.size ∧ (own c ∨ w.heap.size ≤ c)) ∧ ∀ w1 : World, (∀ c, own' c → w1.heap[c]? = w'.heap[c]?) → G.H d' b own' w1) : MethOk P G f F := by
  intro args s E w vs h hG ha
  unfold methX
  split
  · rename_i k hk
    split
    · rename_i d hd
      split
      · rename_i p hx
        obtain ⟨cc, x, d'⟩ := p
        cases cc with
        | false => trivial
        | true =>
        simp only [cond_true]
        obtain ⟨b, hb⟩ := findH_hb h ha hk
        have hz1 : ∀ b o v, E.stay w b o = some v → (E.one k w).z b o = some v := fun _ _ _ e => e
        have hhb : ∀ b, E.hb k = some b → (E.one k w).hb 0 = some b := fun b e => by show (if 0 = 0 then E.hb k else none) = some b; rw [if_pos rfl]; exact e
        obtain ⟨as, hx, has⟩ := convML_ok h hz1 hhb hx ha
        have hHd := h.hid k d b hd hb w (fun _ _ => rfl)
        rw [hG.2] at hHd
        obtain ⟨l, z, hS, h0, hown, hlay, happ, hzz⟩ := hH as d b _ w x d' hx hHd
        obtain ⟨rest, rfl, hpl, hfl, s', hrun, hEnd⟩ := hF d b _ w l as x d' hS hx
        have hzin : ∀ c o v, z c o = some v → zBoth E w z c o = some v := fun c o v e => by unfold zBoth; rw [e]
        have hst : ∀ c o v, E.stay w c o = some v → zBoth E w z c o = some v := fun c o v e => by
          unfold zBoth
          cases hzc : z c o with
          | none => exact e
          | some u => rw [stay_own h (hzz c o u hzc).2.1] at e; cases e
        have hle : (Env.lay l z w G.H).le (Env.lay l (zBoth E w z) w G.H) := ⟨fun _ _ e => e, hzin, fun _ _ _ _ => rfl, fun _ _ e => e, rfl⟩
        have hrel : Rel (Env.lay l (zBoth E w z) w G.H) (St.rows (Lay.of l)) w := Rel.lay (fun p hp => by
            obtain ⟨c, g1, g2, us, g3, g4⟩ := hlay p hp
            exact ⟨c, g1, g2, us, VRL.mono hle g3, g4⟩) happ (fun c o v e => by
            unfold zBoth at e
            split at e
            · rename_i u hu; cases e; exact ⟨(hzz c o v hu).1, (hzz c o v hu).2.2⟩
            · refine ⟨stay_cell h e, fun p hp hc => ?_⟩
              subst hc
              rw [stay_own h (hown p hp)] at e; cases e)
        cases has with
        | cons a1 a2 =>
          cases a1 with
          | hp e0 =>
            rename_i b0
            have e0 : (if 0 = 0 then E.hb k else none) = some b0 := e0
            rw [if_pos rfl, hb] at e0
            cases e0
            obtain ⟨p0, hp0, hpb, hpbase⟩ := h0
            have hloc0 : (Env.lay l (zBoth E w z) w G.H).loc 0 = some (b, 0) := by show (l[0]?).map _ = _; rw [hp0]; simp [hpb, hpbase]
            have hargs : VRL (Env.lay l (zBoth E w z) w G.H) (.ptr 0 0 :: rest) _ := .cons (.ptr (base := 0) 0 hloc0)
              (VRL.plain (E := Env.lay l (zBoth E w z) w G.H) (E1 := E.one k w) (fun c o v e => hst c o v e) a2 hpl)
            have hH2 : E.H = G.H := hG.2
            have hr := bodyD_ok (D := D) hm hn (callN_ok hm hn hX loops n) m f _ (St.rows (Lay.of l)) (Env.lay l (zBoth E w z) w G.H) w _ hrel (GlobOk.one h hp hG hst hH2.symm) hargs
            rw [hrun] at hr
            have fin : ∀ (w' : World) (E' : Env) (v' : Value), Step (Env.lay l (zBoth E w z) w G.H) (St.rows (Lay.of l)) w E' s' w' → VR E' x v' → ∃ E2, Step E s w E2 (s.set k (.hid d')) w' ∧ VR E2 x v' := by
              intro w' E' v' hs hv
              have hfr : ∀ c, c < w.heap.size → (∀ p ∈ l, p.b ≠ c) → w'.heap[c]? = w.heap[c]? := fun c hc hne => hs.fr c hc (fun r base e => by
                have e : (l[r]?).map (fun p => (p.b, p.base)) = some (c, base) := e
                cases hp : l[r]? with
                | none => rw [hp] at e; cases e
                | some p => rw [hp] at e; cases e; exact hne p (List.mem_of_getElem? hp) rfl) (fun n e => e)
              obtain ⟨own', k1, k2⟩ := hE _ d d' l s' b _ w E' w' _ hS hEnd ⟨p0, hp0, hpb, hpbase⟩ hown hs (fun c hc => (h.own k c hc).1) hfr
              exact ⟨_, Step.turned h hd hb (own := own') (fun c hc ho => hfr c hc fun p hp e => by subst e; exact ho (hown p hp)) hs.size hs.os hs.tape hs.output k1 (fun w1 hw => by rw [hG.2]; exact k2 w1 hw), hv.flat hfl⟩
            rcases hr with ⟨h4, h5⟩ | ⟨v', w', E', h4, h5, h6⟩
            · exact .inl ⟨h4, Calls.mono h5 fun e w' ⟨v', E', he, hs, hv⟩ => by
                obtain ⟨E2, k1, k2⟩ := fin w' E' v' hs hv
                exact ⟨v', E2, he, k1, k2⟩⟩
            · obtain ⟨E2, k1, k2⟩ := fin w' E' v' h5 h6
              exact .inr ⟨v', w', E2, h4, k1, k2⟩
      · trivial
    · trivial
  · trivial
theorem pres_known {P : Program} {G : Glob} (hm : P.follows .mixedOrders = true) (hn : NoNG P) (hp : GlobPlain G) {X : Known} (hX : KnownOk P G X) {D : Live} {m loops n : Nat} {f : FuncId} {F : Hid → List AV → Option (Bool × AV × Hid)}
    {Sees : Hid → Nat → (Nat → Prop) → World → List Lay → Prop} {Ends : Hid → Hid → List Lay → St → Prop}
    (hH : ∀ d b own w, G.H d b own w → ∃ l z, Sees d b own w l ∧ (∃ p, l[0]? = some p ∧ p.b = b ∧ p.base = 0) ∧ (∀ p ∈ l, own p.b) ∧ (∀ p ∈ l, LayOk (Env.lay l z w G.H) w p) ∧ (∀ (i j : Nat) (p q : Lay), l[i]? = some p → l[j]? = some q → p.b = q.b → i = j) ∧
      (∀ c o v, z c o = some v → w.cell? ⟨c, o, none⟩ = some v ∧ own c ∧ ∀ p ∈ l, p.b ≠ c))
    (hF : ∀ d b own w l as x d', Sees d b own w l → F d as = some (true, x, d') → ∃ rest, as = .hptr 0 :: rest ∧ AV.plains rest = true ∧ x.flat = true ∧ ∃ s', bodyD P G (callN P G X loops n) D m P.funcs[f]? (.ptr 0 0 :: rest) (St.rows (Lay.of l)) = .ret x s' ∧ Ends d d' l s')
    (hE : ∀ d d' l s' b own w E' w' z, Sees d b own w l → Ends d d' l s' → (∃ p, l[0]? = some p ∧ p.b = b ∧ p.base = 0) → (∀ p ∈ l, own p.b) → Step (Env.lay l z w G.H) (St.rows (Lay.of l)) w E' s' w' → (∀ c, own c → c < w.heap.size) →
      (∀ c, c < w.heap.size → (∀ p ∈ l, p.b ≠ c) → w'.heap[c]? = w.heap[c]?) → ∃ own', (∀ c, own' c → c < w'.heap.size ∧ (own c ∨ w.heap.size ≤ c)) ∧ ∀ w1 : World, (∀ c, own' c → w1.heap[c]? = w'.heap[c]?) → G.H d' b own' w1) : MethOk P G f F :=
  pres_knownA (D := D) (m := m) (loops := loops) (n := n) (X := X) (Sees := fun _ => Sees) (Ends := fun _ => Ends) hm hn hp hX (fun _ d b own w _ _ _ h => hH d b own w h) hF (fun _ => hE)
theorem born_known {P : Program} {G : Glob} (hm : P.follows .mixedOrders = true) (hn : NoNG P) (hp : GlobPlain G) {X : Known} (hX : KnownOk P G X) {D : Live} {m loops n : Nat} {f : FuncId} {F : List AV → Option (Hid × List AV)} {Ends : Hid → St → Nat → Prop}
    (hF : ∀ ar d xs, F ar = some (d, xs) → AV.plains ar = true ∧ AV.flats xs = true ∧ ∃ s1 r0, bodyD P G (callN P G X loops n) D m P.funcs[f]? ar St.empty = .ret (.tup (.ptr r0 0 :: xs)) s1 ∧ Ends d s1 r0 ∧ ∃ o, s1.get r0 = some (.row o) ∧ o.root = r0 ∧ o.pos = 0)
    (hE : ∀ d s1 r0 w E0 E1 w' b, Ends d s1 r0 → (∀ r, E0.loc r = none) → Step E0 St.empty w E1 s1 w' → E1.loc r0 = some (b, 0) → ∃ own, (∀ c, own c → c < w'.heap.size ∧ w.heap.size ≤ c) ∧ ∀ w1 : World, (∀ c, own c → w1.heap[c]? = w'.heap[c]?) → G.H d b own w1) :
    BornOk P G f F := by
  intro args s E w vs h hG ha
  unfold newX
  split
  · rename_i d xs hx
    obtain ⟨h1, h2, s1, r0, h3, h4, o, h7, h8, h9⟩ := hF args d xs hx
    have hr := bodyD_ok (D := D) hm hn (callN_ok hm hn hX loops n) m f args St.empty E.bare w vs h.bare (hG.bare hp) (VRL.plain (E := E.bare) (E1 := E) (fun _ _ _ e => e) ha h1)
    rw [h3] at hr
    have fin : ∀ (w' : World) (E1 : Env) (v' : Value), Step E.bare St.empty w E1 s1 w' → VR E1 (.tup (.ptr r0 0 :: xs)) v' → ∃ E2, Step E s w E2 (s.push (.hid d)) w' ∧ VR E2 (.tup (.hptr s.next :: xs)) v' := by
      intro w' E1 v' hs hv
      cases hv with
      | tup hv =>
        cases hv with
        | cons hv hvs =>
          cases hv with
          | ptr off hl =>
            rename_i b base
            have hb0 := hs.rel.b0 r0 o b base h7 hl h8 h9
            subst hb0
            have hfr : ∀ c, c < w.heap.size → w'.heap[c]? = w.heap[c]? := fun c hc => hs.fr c hc (fun r base e => by cases e) (fun n e => e)
            obtain ⟨own, k1, k2⟩ := hE d s1 r0 w E.bare E1 w' b h4 (fun _ => rfl) hs hl
            exact ⟨E.born s.next b own, Step.born h hfr hs.size hs.os hs.tape hs.output k1 (fun w1 hw => by rw [hG.2]; exact k2 w1 hw), .tup (.cons (.hp (if_pos rfl)) (hvs.flat h2))⟩
    rcases hr with ⟨h10, h11⟩ | ⟨v', w', E', h10, h11, h12⟩
    · exact .inl ⟨h10, Calls.mono h11 fun e w' ⟨v', E', he, hs, hv⟩ => by
        obtain ⟨E2, k1, k2⟩ := fin w' E' v' hs hv
        exact ⟨v', E2, he, k1, k2⟩⟩
    · obtain ⟨E2, k1, k2⟩ := fin w' E' v' h11 h12
      exact .inr ⟨v', w', E2, h10, k1, k2⟩
  · trivial
end Go.Am
end
