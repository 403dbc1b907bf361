/- The operations, on both sides: those that need no memory. -/
import Derived.Test.YtaiddjgpnpbckaaGreatDoorAmAppend
import Derived.Orders
set_option autoImplicit false
namespace Go.Am

/-- What the listed package-level variables hold stays. -/
def GlobOk (E : Env) (G : Glob) : Prop := (∀ g cs, G.at_ g = some cs → ∃ vs, VRL E cs vs ∧ ∀ (i : Nat) (v : Value), vs[i]? = some v → E.z g i = some v) ∧ E.H = G.H

theorem GlobOk.mono {E E' : Env} {G : Glob} (h : GlobOk E G) (he : E.le E') : GlobOk E' G := ⟨fun g cs hg => by
  obtain ⟨vs, h1, h2⟩ := h.1 g cs hg
  exact ⟨vs, VRL.mono he h1, fun i v hi => he.z _ _ _ (h2 i v hi)⟩, he.H.trans h.2⟩

/-- A deferred call. -/
def DfrR (E : Env) (x : FuncId × List AV) (d : Deferred) : Prop := ∃ cap : List Value, d.target = .fn (.func x.1) ⟨cap⟩ ∧ VRL E x.2 (d.args.toList ++ cap)

inductive DfrsR (E : Env) : List (FuncId × List AV) → List Deferred → Prop
  | nil : DfrsR E [] []
  | cons {x : FuncId × List AV} {d : Deferred} {l : List (FuncId × List AV)} {r : List Deferred} (h : DfrR E x d) (hl : DfrsR E l r) : DfrsR E (x :: l) (d :: r)

theorem DfrR.mono {E E' : Env} (he : E.le E') {x : FuncId × List AV} {d : Deferred} (h : DfrR E x d) : DfrR E' x d := by
  obtain ⟨cap, h1, h2⟩ := h; exact ⟨cap, h1, VRL.mono he h2⟩
theorem DfrsR.mono {E E' : Env} (he : E.le E') {l : List (FuncId × List AV)} {r : List Deferred} (h : DfrsR E l r) : DfrsR E' l r := by
  induction h with
  | nil => exact .nil
  | cons h _ ih => exact .cons (h.mono he) ih

structure TR (E : Env) (t : T) (a : Act) : Prop where
  size : a.tmps.size = t.n
  val : ∀ i, VR E (getT (pathOf i) t) (a.tmps.getD i undef)
  ds : DfrsR E t.ds a.defers

theorem TR.mono {E E' : Env} (he : E.le E') {t : T} {a : Act} (h : TR E t a) : TR E' t a := ⟨h.size, fun i => VR.mono he (h.val i), h.ds.mono he⟩

theorem TR.put {E : Env} {t : T} {a : Act} (h : TR E t a) (d : Nat) {x : AV} {v : Value} (hv : VR E x v) : TR E (t.put d (pathOf d) x) (a.put (some d) v) := by
  unfold T.put
  rcases Bool.eq_false_or_eq_true (Nat.blt d t.n) with hb | hb
  · rw [cond_of_true hb]
    have hlt : d < t.n := Nat.lt_of_lt_of_eq (Nat.le_of_ble_eq_true hb) rfl
    refine ⟨by simp [Act.put, h.size], fun i => ?_, h.ds⟩
    by_cases e : d = i
    · subst e
      have h1 : getT (pathOf d) { t with tr := t.tr.setP x (pathOf d) } = x := by simp [getT, Tr.getP_setP_same]
      rw [h1]
      have : (a.put (some d) v).tmps.getD d undef = v := by
        simp only [Act.put, Array.getD_eq_getD_getElem?]
        rw [Array.getElem?_setIfInBounds_self]
        simp [h.size, hlt]
      rw [this]; exact hv
    · have h1 : getT (pathOf i) { t with tr := t.tr.setP x (pathOf d) } = getT (pathOf i) t := by
        simp [getT, Tr.getP_setP_ne x _ _ t.tr (fun e2 => e (pathOf_inj e2))]
      rw [h1]
      have : (a.put (some d) v).tmps.getD i undef = a.tmps.getD i undef := by
        simp only [Act.put, Array.getD_eq_getD_getElem?]
        rw [Array.getElem?_setIfInBounds_ne e]
      rw [this]; exact h.val i
  · rw [cond_of_false hb]
    have hge : ¬ d < t.n := fun h2 => by rw [show Nat.blt d t.n = true from Nat.ble_eq_true_of_le h2] at hb; cases hb
    have : (a.put (some d) v) = a := by
      simp only [Act.put]
      rw [Array.setIfInBounds_eq_of_size_le (by rw [h.size]; omega)]
    rw [this]; exact h

mutual
theorem ofV_ok (E : Env) : ∀ {v : Value} {c : AV}, ofV v = some c → VR E c v
  | .int k n, c, h => by simp [ofV] at h; subst h; exact .int k n
  | .bool b, c, h => by simp [ofV] at h; subst h; exact .bool b
  | .string s, c, h => by simp only [ofV, Option.some.injEq] at h; subst h; exact .str s
  | .pointer none, c, h => by simp [ofV] at h; subst h; exact .nilp
  | .pointer (some _), c, h => by simp [ofV] at h
  | .nilFunc, c, h => by simp [ofV] at h; subst h; exact .nilfn
  | .nilIface, c, h => by simp [ofV] at h; subst h; exact .nilifc
  | .map none, c, h => by simp [ofV] at h; subst h; exact .mpn
  | .map (some _), c, h => by simp [ofV] at h
  | .slice none 0 0, c, h => by
    simp [ofV] at h; subst h
    exact .lst .nil (Nat.le_refl _) (fun _ => rfl) rfl (fun _ => rfl) (fun h => absurd rfl h)
  | .slice none 0 (_ + 1), c, h => by simp [ofV] at h
  | .slice none (_ + 1) _, c, h => by simp [ofV] at h
  | .slice (some _) _ _, c, h => by simp [ofV] at h
  | .iface t v, c, h => by
    simp only [ofV] at h
    split at h
    · rename_i x hx; cases h; exact .ifc (ofV_ok E hx)
    · cases h
  | .agg ⟨cs⟩, c, h => by
    simp only [ofV] at h
    split at h
    · rename_i x hx; cases h; exact .agg (ofVs_ok E hx)
    · cases h
  | .tuple ⟨cs⟩, c, h => by
    simp only [ofV] at h
    split at h
    · rename_i x hx; cases h; exact .tup (ofVs_ok E hx)
    · cases h
  | .func f ⟨[]⟩ ⟨[]⟩, c, h => by simp [ofV] at h; subst h; exact .fn .nil .nil
  | .func f ⟨_ :: _⟩ _, c, h => by simp [ofV] at h
  | .func f ⟨[]⟩ ⟨_ :: _⟩, c, h => by simp [ofV] at h
  | .float _ _, c, h => by simp [ofV] at h
  | .complex _ _ _, c, h => by simp [ofV] at h
  | .chan _, c, h => by simp [ofV] at h
theorem ofVs_ok (E : Env) : ∀ {v : List Value} {c : List AV}, ofVs v = some c → VRL E c v
  | [], c, h => by simp [ofVs] at h; subst h; exact .nil
  | a :: l, c, h => by
    simp only [ofVs] at h
    split at h
    · rename_i x xs h1 h2; cases h; exact .cons (ofV_ok E h1) (ofVs_ok E h2)
    · cases h
end

theorem ofNat_toNat (l : List UInt8) : (l.map (·.toNat)).map UInt8.ofNat = l := by
  induction l with
  | nil => rfl
  | cons a l ih => simp only [List.map_cons, ih, UInt8.ofNat_toNat]

mutual
theorem toV_ok {E : Env} : ∀ {a : AV} {v x : Value}, VR E a v → toV a = some x → v = x
  | _, _, x, .int k n, h => by simp [toV] at h; exact h
  | _, _, x, .bool b, h => by simp [toV] at h; exact h
  | _, _, x, .str s, h => by
    simp only [toV, ofNat_toNat, Option.some.injEq] at h; subst h
    rfl
  | _, _, x, .nilp, h => by simp [toV] at h; exact h
  | _, _, x, .ptr _ _, h => by simp [toV] at h
  | _, _, x, .ptrL _ _ _, h => by simp [toV] at h
  | _, _, x, .sl _ _ _ _, h => by simp [toV] at h
  | _, _, x, .lst (cs := []) (len := 0) (tight := true) (nl := true) h1 h2 h3 h4 h5 h6, h => by
    simp only [toV, Option.some.injEq] at h
    subst h
    have hc := h3 rfl
    subst hc
    rename_i a
    cases a with
    | none => rfl
    | some _ => simp at h4
  | _, _, x, .lst (cs := _ :: _) h1 h2 h3 h4 h5 h6, h => by simp [toV] at h
  | _, _, x, .lst (cs := []) (len := _ + 1) h1 h2 h3 h4 h5 h6, h => by simp [toV] at h
  | _, _, x, .lst (cs := []) (len := 0) (tight := false) h1 h2 h3 h4 h5 h6, h => by simp [toV] at h
  | _, _, x, .lst (cs := []) (len := 0) (tight := true) (nl := false) h1 h2 h3 h4 h5 h6, h => by simp [toV] at h
  | _, _, x, .mpn, h => by simp [toV] at h; exact h
  | _, _, x, .mp _, h => by simp [toV] at h
  | _, _, x, .fn _ _, h => by simp [toV] at h
  | _, _, x, .nilfn, h => by simp [toV] at h; exact h
  | _, _, x, .ifc h1, h => by
    simp only [toV] at h
    split at h
    · rename_i y hy; cases h; rw [toV_ok h1 hy]
    · cases h
  | _, _, x, .nilifc, h => by simp [toV] at h; exact h
  | _, _, x, .agg h1, h => by
    simp only [toV] at h
    split at h
    · rename_i y hy; cases h; rw [toVs_ok h1 hy]
    · cases h
  | _, _, x, .tup h1, h => by
    simp only [toV] at h
    split at h
    · rename_i y hy; cases h; rw [toVs_ok h1 hy]
    · cases h
  | _, _, x, .undef _, h => by simp [toV] at h
theorem toVs_ok {E : Env} : ∀ {a : List AV} {v x : List Value}, VRL E a v → toVs a = some x → v = x
  | _, _, x, .nil, h => by simp [toVs] at h; exact h.symm
  | _, _, x, .cons h1 h2, h => by
    simp only [toVs] at h
    split at h
    · rename_i y ys e1 e2; cases h; rw [toV_ok h1 e1, toVs_ok h2 e2]
    · cases h
end

section
variable {P : Program} {G : Glob} {E : Env} {s : St} {w : World} {t : T} {a : Act}

theorem evC_ok (hG : GlobOk E G) (ht : TR E t a) (x : Operand) : VR E (evC G x t) (a.eval x) := by
  cases x with
  | tmp i => exact ht.val i
  | const v =>
    cases hc : ofV v with
    | some c => simp only [evC, hc]; exact ofV_ok E hc
    | none => simp only [evC, hc]; exact .undef _
  | global g =>
    cases hcs : G.at_ g with
    | some cs =>
      simp only [evC, hcs]
      obtain ⟨vs, h1, h2⟩ := hG.1 g cs hcs
      exact VR.ptrL (base := 0) 0 h1 (fun i v hi => by simpa using h2 i v hi)
    | none => simp only [evC, hcs]; exact .undef _
  | func f => exact .fn .nil .nil

theorem evL_ok (hG : GlobOk E G) (ht : TR E t a) : ∀ l : List Operand, VRL E (evL G l t) (l.map a.eval)
  | [] => .nil
  | x :: l => .cons (evC_ok hG ht x) (evL_ok hG ht l)

theorem still_run {α : Type} : ∀ {x : Sem α} {v : α}, still P x = some v → ∀ w, x.run P w = .ok v w
  | .pure a, v, h, w => by simp [still] at h; subst h; rfl
  | .program k, v, h, w => by simp only [still] at h; exact still_run h w
  | .load _ _ _, v, h, w => by simp [still] at h
  | .store _ _ _ _, v, h, w => by simp [still] at h
  | .new _ _, v, h, w => by simp [still] at h
  | .shape _ _, v, h, w => by simp [still] at h
  | .freeze _ _ _, v, h, w => by simp [still] at h
  | .frozen _ _, v, h, w => by simp [still] at h
  | .getObj _ _, v, h, w => by simp [still] at h
  | .setObj _ _ _, v, h, w => by simp [still] at h
  | .choose _ _, v, h, w => by simp [still] at h
  | .sys _ _, v, h, w => by simp [still] at h
  | .mark _ _, v, h, w => by simp [still] at h
  | .halt _, v, h, w => by simp [still] at h

theorem toVs_mem {l : List Operand} : ∀ {xs : List Value}, toVs (evL G l t) = some xs → ∀ x ∈ l, ∃ u, toV (evC G x t) = some u := by
  induction l with
  | nil => intro _ _ x hx; simp at hx
  | cons y l ih =>
    intro xs h x hx
    simp only [evL, toVs] at h
    split at h
    · rename_i u us e1 e2
      rcases List.mem_cons.1 hx with rfl | hx
      · exact ⟨u, e1⟩
      · exact ih e2 x hx
    · cases h

theorem plainRun_ok (hG : GlobOk E G) (ht : TR E t a) {o : Oper} (hs : ∀ cs b, o.op ≠ .select cs b) {x : AV} (h : plainRun P G o t = some x) :
    ∃ v, (∀ w, (execOp a.eval o).run P w = .ok (.value v) w) ∧ VR E x v := by
  unfold plainRun at h
  split at h
  · cases h
  · rename_i xs hxs
    split at h
    · rename_i v hv
      refine ⟨v, fun w => ?_, ofV_ok E h⟩
      have hc : execOp a.eval o = execOp (fun x => match toV (evC G x t) with | some v => v | none => .tuple #[]) o := by
        refine execOp_congr o hs (fun x hx => ?_)
        obtain ⟨u, hu⟩ := toVs_mem hxs x (by simpa using hx)
        rw [hu]
        exact toV_ok (evC_ok hG ht x) hu
      rw [hc]
      exact still_run hv w
    · cases h

end

/-- What an operation of the model comes to, against what it comes to here. -/
def OpOk (P : Program) (E : Env) (s : St) (w : World) (o : Oper) (a : Act) : Nx → Prop
  | .val x s' => (∃ v' w' E', (execOp a.eval o).run P w = .ok (.value v') w' ∧ Step E s w E' s' w' ∧ VR E' x v') ∨
      (∃ f args, (execOp a.eval o).run P w = .ok (.enter f args) w ∧ Calls P f args w fun e w' => ∃ v' E', e = .returned v' ∧ Step E s w E' s' w' ∧ VR E' x v')
  | .skip s' => ∃ w' E', (execOp a.eval o).run P w = .ok .skip w' ∧ Step E s w E' s' w'
  | .dfr f args s' => s' = s ∧ ∃ d, (execOp a.eval o).run P w = .ok (.defer d) w ∧ DfrR E (f, args) d
  | .panic x s' => (∃ v' w' E', (execOp a.eval o).run P w = .halt (.panic v') w' ∧ Step E s w E' s' w' ∧ VR E' x v') ∨
      (∃ f args, (execOp a.eval o).run P w = .ok (.enter f args) w ∧ Calls P f args w fun e w' => ∃ v' E', e = .panicked [{ v := v', recovered := false }] ∧ Step E s w E' s' w' ∧ VR E' x v')
  | .fail => True

section
variable {P : Program} {G : Glob} {E : Env} {s : St} {w : World} {t : T} {a : Act} {o : Oper}

theorem OpOk.ofVal (h : Rel E s w) {x : AV} {v : Value} (hr : (execOp a.eval o).run P w = .ok (.value v) w) (hv : VR E x v) : OpOk P E s w o a (.val x s) :=
  .inl ⟨v, w, E, hr, .refl h, hv⟩

theorem valO_ok (h : Rel E s w) {x : Option AV} (hx : ∀ y, x = some y → ∃ v, (execOp a.eval o).run P w = .ok (.value v) w ∧ VR E y v) : OpOk P E s w o a (valO x s) := by
  unfold valO
  split
  · rename_i y
    obtain ⟨v, h1, h2⟩ := hx y rfl
    exact .ofVal h h1 h2
  · trivial

theorem aggO_ok (h : Rel E s w) {x : Option (List AV)} (hx : ∀ y, x = some y → ∃ v, (execOp a.eval o).run P w = .ok (.value v) w ∧ VR E (.agg y) v) : OpOk P E s w o a (aggO x s) := by
  unfold aggO
  split
  · rename_i y
    obtain ⟨v, h1, h2⟩ := hx y rfl
    exact .ofVal h h1 h2
  · trivial

theorem plainC_ok (h : Rel E s w) (hG : GlobOk E G) (ht : TR E t a) (hs : ∀ cs b, o.op ≠ .select cs b) : OpOk P E s w o a (plainC P G o t s) :=
  valO_ok h fun y hy => by
    obtain ⟨v, h1, h2⟩ := plainRun_ok hG ht hs hy
    exact ⟨v, h1 w, h2⟩

theorem eqNs_eq : ∀ (a b : List Nat), eqNs a b = decide (a = b)
  | [], [] => by simp [eqNs]
  | [], _ :: _ => by simp [eqNs]
  | _ :: _, [] => by simp [eqNs]
  | a :: l, b :: r => by
    simp only [eqNs]
    rcases Bool.eq_false_or_eq_true (a.beq b) with h | h
    · have := Nat.eq_of_beq_eq_true h
      rw [cond_of_true h, eqNs_eq l r]
      subst this; simp
    · have : a ≠ b := fun e => by subst e; simp at h
      rw [cond_of_false h]; simp [this]

theorem eqI_eq : ∀ (a b : Int), eqI a b = (a == b)
  | .ofNat a, .ofNat b => by
    rw [Bool.eq_iff_iff]; simp [eqI]; omega
  | .negSucc a, .negSucc b => by
    rw [Bool.eq_iff_iff]; simp [eqI]
  | .ofNat a, .negSucc b => by
    rw [Bool.eq_iff_iff]; simp [eqI]
  | .negSucc a, .ofNat b => by
    rw [Bool.eq_iff_iff]; simp [eqI]

theorem leI_eq : ∀ (a b : Int), leI a b = decide (a ≤ b)
  | .ofNat a, .ofNat b => by rw [Bool.eq_iff_iff]; simp [leI]
  | .negSucc a, .negSucc b => by rw [Bool.eq_iff_iff]; simp [leI]; omega
  | .ofNat a, .negSucc b => by rw [Bool.eq_iff_iff]; simp [leI]; omega
  | .negSucc a, .ofNat b => by rw [Bool.eq_iff_iff]; simp [leI]; omega

theorem kindEq_eq {a b : IntKind} (h : kindEq a b = true) : a = b := by cases a <;> cases b <;> first | rfl | (simp [kindEq] at h)

theorem bytes_eq_iff (a b : ByteArray) : (a.data.toList.map (·.toNat) = b.data.toList.map (·.toNat)) ↔ a.data.toList = b.data.toList := by
  constructor
  · intro h
    have := congrArg (List.map UInt8.ofNat) h
    rwa [ofNat_toNat, ofNat_toNat] at this
  · intro h; rw [h]
end
end Go.Am
