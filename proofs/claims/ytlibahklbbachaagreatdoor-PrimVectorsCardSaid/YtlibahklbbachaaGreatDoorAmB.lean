/- The operations, on both sides: those that need no memory. -/
import Derived.Test.YtlibahklbbachaaGreatDoorAmA
import Derived.Orders
import Derived.Laws.StructEq
import Derived.Laws.Strings
import Derived.Lib.Builder
import Derived.Lib.Strings
section
set_option autoImplicit false
namespace Go.Am

/-- What the listed package-level variables hold stays. -/
def GlobOk (E : Env) (G : Glob) (w : World) : Prop :=
  ((∀ g cs, G.at_ g = some cs → ∃ vs, VRL E cs vs ∧ ∀ (i : Nat) (v : Value), vs[i]? = some v → E.z g i = some v) ∧
    ∀ g n, G.siz g = some n → (∃ v, E.z g 0 = some v) ∧ ∃ c ty fz, w.heap[g]? = some (.cells c ty fz) ∧ c.size = n) ∧ E.H = G.H

theorem GlobOk.step {E E' : Env} {s s' : St} {w w' : World} {G : Glob} (h : GlobOk E G w) (hr : Rel E s w) (hs : Step E s w E' s' w') : GlobOk E' G w' := ⟨⟨fun g cs hg => by
  obtain ⟨vs, h1, h2⟩ := h.1.1 g cs hg
  exact ⟨vs, VRL.mono hs.le h1, fun i v hi => hs.le.z _ _ _ (h2 i v hi)⟩, fun g n hg => by
  obtain ⟨⟨v, hv⟩, c, ty, fz, h1, h2⟩ := h.1.2 g n hg
  refine ⟨⟨v, hs.le.z _ _ _ hv⟩, c, ty, fz, ?_, h2⟩
  have hlt : g < w.heap.size := by
    rcases Nat.lt_or_ge g w.heap.size with h | h
    · exact h
    · rw [Array.getElem?_eq_none h] at h1; cases h1
  rw [hs.fr g hlt (fun r base => hr.zap g 0 v r base hv) fun m hm => by
    have := (hr.own m g hm).2.2.1 0
    rw [hv] at this; cases this]
  exact h1⟩, hs.le.H.trans h.2⟩

theorem GlobOk.grown {E E' : Env} {w w' : World} {G : Glob} (h : GlobOk E G w) (he : E.le E') (hw : ∀ b, b < w.heap.size → w'.heap[b]? = w.heap[b]?) : GlobOk E' G w' := ⟨⟨fun g cs hg => by
  obtain ⟨vs, h1, h2⟩ := h.1.1 g cs hg
  exact ⟨vs, VRL.mono he h1, fun i v hi => he.z _ _ _ (h2 i v hi)⟩, fun g n hg => by
  obtain ⟨⟨v, hv⟩, c, ty, fz, h1, h2⟩ := h.1.2 g n hg
  refine ⟨⟨v, he.z _ _ _ hv⟩, c, ty, fz, ?_, h2⟩
  have hlt : g < w.heap.size := by
    rcases Nat.lt_or_ge g w.heap.size with h | h
    · exact h
    · rw [Array.getElem?_eq_none h] at h1; cases h1
  rw [hw g hlt]; exact h1⟩, he.H.trans h.2⟩

/-- A deferred call. -/
def DfrR (E : Env) (x : FuncId × List AV) (d : Deferred) : Prop := ∃ cap : List Value, d.target = .fn (.func x.1) ⟨cap⟩ ∧ VRL E x.2 (d.args.toList ++ cap)

inductive DfrsR (E : Env) : List (FuncId × List AV) → List Deferred → Prop
  | nil : DfrsR E [] []
  | cons {x : FuncId × List AV} {d : Deferred} {l : List (FuncId × List AV)} {r : List Deferred} (h : DfrR E x d) (hl : DfrsR E l r) : DfrsR E (x :: l) (d :: r)

theorem DfrR.mono {E E' : Env} (he : E.le E') {x : FuncId × List AV} {d : Deferred} (h : DfrR E x d) : DfrR E' x d := by
  obtain ⟨cap, h1, h2⟩ := h; exact ⟨cap, h1, VRL.mono he h2⟩
theorem DfrsR.mono {E E' : Env} (he : E.le E') {l : List (FuncId × List AV)} {r : List Deferred} (h : DfrsR E l r) : DfrsR E' l r := by
  induction h with
  | nil => exact .nil
  | cons h _ ih => exact .cons (h.mono he) ih

structure TR (E : Env) (t : T) (a : Act) : Prop where
  size : a.tmps.size = t.n
  val : ∀ i, VR E (getT (pathOf i) t) (a.tmps.getD i undef)
  ds : DfrsR E t.ds a.defers

theorem TR.mono {E E' : Env} (he : E.le E') {t : T} {a : Act} (h : TR E t a) : TR E' t a := ⟨h.size, fun i => VR.mono he (h.val i), h.ds.mono he⟩

theorem TR.put {E : Env} {t : T} {a : Act} (h : TR E t a) (d : Nat) {x : AV} {v : Value} (hv : VR E x v) : TR E (t.put d (pathOf d) x) (a.put (some d) v) := by
  unfold T.put
  rcases Bool.eq_false_or_eq_true (Nat.blt d t.n) with hb | hb
  · rw [cond_of_true hb]
    have hlt : d < t.n := Nat.lt_of_lt_of_eq (Nat.le_of_ble_eq_true hb) rfl
    refine ⟨by simp [Act.put, h.size], fun i => ?_, h.ds⟩
    by_cases e : d = i
    · subst e
      have h1 : getT (pathOf d) { t with tr := t.tr.setP x (pathOf d) } = x := by simp [getT, Tr.getP_setP_same]
      rw [h1]
      have : (a.put (some d) v).tmps.getD d undef = v := by
        simp only [Act.put, Array.getD_eq_getD_getElem?]
        rw [Array.getElem?_setIfInBounds_self]
        simp [h.size, hlt]
      rw [this]; exact hv
    · have h1 : getT (pathOf i) { t with tr := t.tr.setP x (pathOf d) } = getT (pathOf i) t := by
        simp [getT, Tr.getP_setP_ne x _ _ t.tr (fun e2 => e (pathOf_inj e2))]
      rw [h1]
      have : (a.put (some d) v).tmps.getD i undef = a.tmps.getD i undef := by
        simp only [Act.put, Array.getD_eq_getD_getElem?]
        rw [Array.getElem?_setIfInBounds_ne e]
      rw [this]; exact h.val i
  · rw [cond_of_false hb]
    have hge : ¬ d < t.n := fun h2 => by rw [show Nat.blt d t.n = true from Nat.ble_eq_true_of_le h2] at hb; cases hb
    have : (a.put (some d) v) = a := by
      simp only [Act.put]
      rw [Array.setIfInBounds_eq_of_size_le (by rw [h.size]; omega)]
    rw [this]; exact h

mutual
theorem ofV_ok (E : Env) : ∀ {v : Value} {c : AV}, ofV v = some c → VR E c v
  | .int k n, c, h => by simp [ofV] at h; subst h; exact .int k n
  | .bool b, c, h => by simp [ofV] at h; subst h; exact .bool b
  | .string s, c, h => by simp only [ofV, Option.some.injEq] at h; subst h; exact .str s
  | .pointer none, c, h => by simp [ofV] at h; subst h; exact .nilp
  | .pointer (some _), c, h => by simp [ofV] at h
  | .nilFunc, c, h => by simp [ofV] at h; subst h; exact .nilfn
  | .nilIface, c, h => by simp [ofV] at h; subst h; exact .nilifc
  | .map none, c, h => by simp [ofV] at h; subst h; exact .mpn
  | .map (some _), c, h => by simp [ofV] at h
  | .slice none 0 0, c, h => by
    simp [ofV] at h; subst h
    exact .lst .nil (Nat.le_refl _) (fun _ => rfl) rfl (fun _ => rfl) (fun h => absurd rfl h)
  | .slice none 0 (_ + 1), c, h => by simp [ofV] at h
  | .slice none (_ + 1) _, c, h => by simp [ofV] at h
  | .slice (some _) _ _, c, h => by simp [ofV] at h
  | .iface t v, c, h => by
    simp only [ofV] at h
    split at h
    · rename_i x hx; cases h; exact .ifc (ofV_ok E hx)
    · cases h
  | .agg ⟨cs⟩, c, h => by
    simp only [ofV] at h
    split at h
    · rename_i x hx; cases h; exact .agg (ofVs_ok E hx)
    · cases h
  | .tuple ⟨cs⟩, c, h => by
    simp only [ofV] at h
    split at h
    · rename_i x hx; cases h; exact .tup (ofVs_ok E hx)
    · cases h
  | .func f ⟨[]⟩ ⟨[]⟩, c, h => by simp [ofV] at h; subst h; exact .fn .nil .nil
  | .func f ⟨_ :: _⟩ _, c, h => by simp [ofV] at h
  | .func f ⟨[]⟩ ⟨_ :: _⟩, c, h => by simp [ofV] at h
  | .float _ _, c, h => by simp [ofV] at h
  | .complex _ _ _, c, h => by simp [ofV] at h
  | .chan _, c, h => by simp [ofV] at h
theorem ofVs_ok (E : Env) : ∀ {v : List Value} {c : List AV}, ofVs v = some c → VRL E c v
  | [], c, h => by simp [ofVs] at h; subst h; exact .nil
  | a :: l, c, h => by
    simp only [ofVs] at h
    split at h
    · rename_i x xs h1 h2; cases h; exact .cons (ofV_ok E h1) (ofVs_ok E h2)
    · cases h
end

theorem ofNat_toNat (l : List UInt8) : (l.map (·.toNat)).map UInt8.ofNat = l := by
  induction l with
  | nil => rfl
  | cons a l ih => simp only [List.map_cons, ih, UInt8.ofNat_toNat]

mutual
theorem toV_ok {E : Env} : ∀ {a : AV} {v x : Value}, VR E a v → toV a = some x → v = x
  | _, _, x, .int k n, h => by simp [toV] at h; exact h
  | _, _, x, .bool b, h => by simp [toV] at h; exact h
  | _, _, x, .str s, h => by
    simp only [toV, ofNat_toNat, Option.some.injEq] at h; subst h
    rfl
  | _, _, x, .nilp, h => by simp [toV] at h; exact h
  | _, _, x, .ptr _ _, h => by simp [toV] at h
  | _, _, x, .ptrL _ _ _, h => by simp [toV] at h
  | _, _, x, .sl _ _ _ _, h => by simp [toV] at h
  | _, _, x, .lst (cs := []) (len := 0) (tight := true) (nl := true) h1 h2 h3 h4 h5 h6, h => by
    simp only [toV, Option.some.injEq] at h
    subst h
    have hc := h3 rfl
    subst hc
    rename_i a
    cases a with
    | none => rfl
    | some _ => simp at h4
  | _, _, x, .lst (cs := _ :: _) h1 h2 h3 h4 h5 h6, h => by simp [toV] at h
  | _, _, x, .lst (cs := []) (len := _ + 1) h1 h2 h3 h4 h5 h6, h => by simp [toV] at h
  | _, _, x, .lst (cs := []) (len := 0) (tight := false) h1 h2 h3 h4 h5 h6, h => by simp [toV] at h
  | _, _, x, .lst (cs := []) (len := 0) (tight := true) (nl := false) h1 h2 h3 h4 h5 h6, h => by simp [toV] at h
  | _, _, x, .mpn, h => by simp [toV] at h; exact h
  | _, _, x, .mp _, h => by simp [toV] at h
  | _, _, x, .fn _ _, h => by simp [toV] at h
  | _, _, x, .nilfn, h => by simp [toV] at h; exact h
  | _, _, x, .ifc h1, h => by
    simp only [toV] at h
    split at h
    · rename_i y hy; cases h; rw [toV_ok h1 hy]
    · cases h
  | _, _, x, .nilifc, h => by simp [toV] at h; exact h
  | _, _, x, .agg h1, h => by
    simp only [toV] at h
    split at h
    · rename_i y hy; cases h; rw [toVs_ok h1 hy]
    · cases h
  | _, _, x, .tup h1, h => by
    simp only [toV] at h
    split at h
    · rename_i y hy; cases h; rw [toVs_ok h1 hy]
    · cases h
  | _, _, x, .lit _ _, h => by simp [toV] at h
  | _, _, x, .undef _, h => by simp [toV] at h
theorem toVs_ok {E : Env} : ∀ {a : List AV} {v x : List Value}, VRL E a v → toVs a = some x → v = x
  | _, _, x, .nil, h => by simp [toVs] at h; exact h.symm
  | _, _, x, .cons h1 h2, h => by
    simp only [toVs] at h
    split at h
    · rename_i y ys e1 e2; cases h; rw [toV_ok h1 e1, toVs_ok h2 e2]
    · cases h
end

section
variable {P : Program} {G : Glob} {E : Env} {s : St} {w : World} {t : T} {a : Act}

theorem evC_ok (hG : GlobOk E G w) (ht : TR E t a) (x : Operand) : VR E (evC G x t) (a.eval x) := by
  cases x with
  | tmp i => exact ht.val i
  | const v =>
    cases hc : ofV v with
    | some c => simp only [evC, hc]; exact ofV_ok E hc
    | none => simp only [evC, hc]; exact .undef _
  | global g =>
    cases hcs : G.at_ g with
    | some cs =>
      simp only [evC, hcs]
      obtain ⟨vs, h1, h2⟩ := hG.1.1 g cs hcs
      exact VR.ptrL (base := 0) 0 h1 (fun i v hi => by simpa using h2 i v hi)
    | none => simp only [evC, hcs]; exact .undef _
  | func f => exact .fn .nil .nil

theorem evL_ok (hG : GlobOk E G w) (ht : TR E t a) : ∀ l : List Operand, VRL E (evL G l t) (l.map a.eval)
  | [] => .nil
  | x :: l => .cons (evC_ok hG ht x) (evL_ok hG ht l)

theorem still_run {α : Type} : ∀ {x : Sem α} {v : α}, still P x = some v → ∀ w, x.run P w = .ok v w
  | .pure a, v, h, w => by simp [still] at h; subst h; rfl
  | .program k, v, h, w => by simp only [still] at h; exact still_run h w
  | .load _ _ _, v, h, w => by simp [still] at h
  | .store _ _ _ _, v, h, w => by simp [still] at h
  | .new _ _, v, h, w => by simp [still] at h
  | .shape _ _, v, h, w => by simp [still] at h
  | .freeze _ _ _, v, h, w => by simp [still] at h
  | .frozen _ _, v, h, w => by simp [still] at h
  | .getObj _ _, v, h, w => by simp [still] at h
  | .setObj _ _ _, v, h, w => by simp [still] at h
  | .choose _ _, v, h, w => by simp [still] at h
  | .sys _ _, v, h, w => by simp [still] at h
  | .mark _ _, v, h, w => by simp [still] at h
  | .halt _, v, h, w => by simp [still] at h

theorem toVs_mem {l : List Operand} : ∀ {xs : List Value}, toVs (evL G l t) = some xs → ∀ x ∈ l, ∃ u, toV (evC G x t) = some u := by
  induction l with
  | nil => intro _ _ x hx; simp at hx
  | cons y l ih =>
    intro xs h x hx
    simp only [evL, toVs] at h
    split at h
    · rename_i u us e1 e2
      rcases List.mem_cons.1 hx with rfl | hx
      · exact ⟨u, e1⟩
      · exact ih e2 x hx
    · cases h

theorem plainRun_ok (hG : GlobOk E G w) (ht : TR E t a) {o : Oper} (hs : ∀ cs b, o.op ≠ .select cs b) {x : AV} (h : plainRun P G o t = some x) :
    ∃ v, (∀ w, (execOp a.eval o).run P w = .ok (.value v) w) ∧ VR E x v := by
  unfold plainRun at h
  split at h
  · cases h
  · rename_i xs hxs
    split at h
    · rename_i v hv
      refine ⟨v, fun w => ?_, ofV_ok E h⟩
      have hc : execOp a.eval o = execOp (fun x => match toV (evC G x t) with | some v => v | none => .tuple #[]) o := by
        refine execOp_congr o hs (fun x hx => ?_)
        obtain ⟨u, hu⟩ := toVs_mem hxs x (by simpa using hx)
        rw [hu]
        exact toV_ok (evC_ok hG ht x) hu
      rw [hc]
      exact still_run hv w
    · cases h

end

/-- What an operation of the model comes to, against what it comes to here. -/
def OpOk (P : Program) (E : Env) (s : St) (w : World) (o : Oper) (a : Act) : Nx → Prop
  | .val x s' => (∃ v' w' E', (execOp a.eval o).run P w = .ok (.value v') w' ∧ Step E s w E' s' w' ∧ VR E' x v') ∨
      (∃ f args, (execOp a.eval o).run P w = .ok (.enter f args) w ∧ Calls P f args w fun e w' => ∃ v' E', e = .returned v' ∧ Step E s w E' s' w' ∧ VR E' x v')
  | .skip s' => ∃ w' E', (execOp a.eval o).run P w = .ok .skip w' ∧ Step E s w E' s' w'
  | .dfr f args s' => s' = s ∧ ∃ d, (execOp a.eval o).run P w = .ok (.defer d) w ∧ DfrR E (f, args) d
  | .panic x s' => (∃ v' w' E', (execOp a.eval o).run P w = .halt (.panic v') w' ∧ Step E s w E' s' w' ∧ VR E' x v') ∨
      (∃ f args, (execOp a.eval o).run P w = .ok (.enter f args) w ∧ Calls P f args w fun e w' => ∃ v' E', e = .panicked [{ v := v', recovered := false }] ∧ Step E s w E' s' w' ∧ VR E' x v')
  | .fail => True

section
variable {P : Program} {G : Glob} {E : Env} {s : St} {w : World} {t : T} {a : Act} {o : Oper}

theorem OpOk.ofVal (h : Rel E s w) {x : AV} {v : Value} (hr : (execOp a.eval o).run P w = .ok (.value v) w) (hv : VR E x v) : OpOk P E s w o a (.val x s) :=
  .inl ⟨v, w, E, hr, .refl h, hv⟩

theorem valO_ok (h : Rel E s w) {x : Option AV} (hx : ∀ y, x = some y → ∃ v, (execOp a.eval o).run P w = .ok (.value v) w ∧ VR E y v) : OpOk P E s w o a (valO x s) := by
  unfold valO
  split
  · rename_i y
    obtain ⟨v, h1, h2⟩ := hx y rfl
    exact .ofVal h h1 h2
  · trivial

theorem aggO_ok (h : Rel E s w) {x : Option (List AV)} (hx : ∀ y, x = some y → ∃ v, (execOp a.eval o).run P w = .ok (.value v) w ∧ VR E (.agg y) v) : OpOk P E s w o a (aggO x s) := by
  unfold aggO
  split
  · rename_i y
    obtain ⟨v, h1, h2⟩ := hx y rfl
    exact .ofVal h h1 h2
  · trivial

theorem plainC_ok (h : Rel E s w) (hG : GlobOk E G w) (ht : TR E t a) (hs : ∀ cs b, o.op ≠ .select cs b) : OpOk P E s w o a (plainC P G o t s) :=
  valO_ok h fun y hy => by
    obtain ⟨v, h1, h2⟩ := plainRun_ok hG ht hs hy
    exact ⟨v, h1 w, h2⟩

theorem eqNs_eq : ∀ (a b : List Nat), eqNs a b = decide (a = b)
  | [], [] => by simp [eqNs]
  | [], _ :: _ => by simp [eqNs]
  | _ :: _, [] => by simp [eqNs]
  | a :: l, b :: r => by
    simp only [eqNs]
    rcases Bool.eq_false_or_eq_true (a.beq b) with h | h
    · have := Nat.eq_of_beq_eq_true h
      rw [cond_of_true h, eqNs_eq l r]
      subst this; simp
    · have : a ≠ b := fun e => by subst e; simp at h
      rw [cond_of_false h]; simp [this]

theorem eqI_eq : ∀ (a b : Int), eqI a b = (a == b)
  | .ofNat a, .ofNat b => by
    rw [Bool.eq_iff_iff]; simp [eqI]; omega
  | .negSucc a, .negSucc b => by
    rw [Bool.eq_iff_iff]; simp [eqI]
  | .ofNat a, .negSucc b => by
    rw [Bool.eq_iff_iff]; simp [eqI]
  | .negSucc a, .ofNat b => by
    rw [Bool.eq_iff_iff]; simp [eqI]

theorem leI_eq : ∀ (a b : Int), leI a b = decide (a ≤ b)
  | .ofNat a, .ofNat b => by rw [Bool.eq_iff_iff]; simp [leI]
  | .negSucc a, .negSucc b => by rw [Bool.eq_iff_iff]; simp [leI]; omega
  | .ofNat a, .negSucc b => by rw [Bool.eq_iff_iff]; simp [leI]; omega
  | .negSucc a, .ofNat b => by rw [Bool.eq_iff_iff]; simp [leI]; omega

theorem kindEq_eq {a b : IntKind} (h : kindEq a b = true) : a = b := by cases a <;> cases b <;> first | rfl | (simp [kindEq] at h)

theorem bytes_eq_iff (a b : ByteArray) : (a.data.toList.map (·.toNat) = b.data.toList.map (·.toNat)) ↔ a.data.toList = b.data.toList := by
  constructor
  · intro h
    have := congrArg (List.map UInt8.ofNat) h
    rwa [ofNat_toNat, ofNat_toNat] at this
  · intro h; rw [h]
end
end Go.Am
end
section
set_option autoImplicit false
namespace Go.Am

section
variable {P : Program} {G : Glob} {E : Env} {s : St} {w : World} {t : T} {a : Act} {o : Oper}

theorem run_binOp {op : BinOp} {ty yt : TypeId} {x y : Operand} (ho : o.op = .binOp op ty x y yt) {u v r : Value} (hu : a.eval x = u) (hv : a.eval y = v)
    (hg : (eqGuard op ty x y u v).run P w = .ok () w) (hr : (binOp op ty u v).run P w = .ok r w) : (execOp a.eval o).run P w = .ok (.value r) w := by
  simp only [execOp, ho, hu, hv]
  simp [hg, hr]

theorem eqGuard_int (op : BinOp) (ty : TypeId) (x y : Operand) (k k' : IntKind) (m n : Int) : (eqGuard op ty x y (.int k m) (.int k' n)).run P w = .ok () w := by
  unfold eqGuard
  cases op <;> simp

theorem eqGuard_str (op : BinOp) (ty : TypeId) (x y : Operand) (m n : ByteArray) : (eqGuard op ty x y (.string m) (.string n)).run P w = .ok () w := by
  unfold eqGuard
  cases op <;> simp

theorem not_dec (m n : Int) : (!decide (n ≤ m)) = decide (m < n) := by rw [Bool.eq_iff_iff]; simp

theorem intOp_run {op : BinOp} {f : IntKind → Int → Int → AV} (hf : intOp op = some f) (ty : TypeId) (k : IntKind) (m n : Int) :
    ∃ r, (binOp op ty (.int k m) (.int k n)).run P w = .ok r w ∧ VR E (f k m n) r := by
  cases op <;> simp only [intOp, Option.some.injEq] at hf <;> first | (cases hf; done) | subst hf
  · exact ⟨.int k (k.wrap (m + n)), by simp [binOp, Op.intArith], .int _ _⟩
  · exact ⟨.int k (k.wrap (m - n)), by simp [binOp, Op.intArith], .int _ _⟩
  · exact ⟨.int k (k.wrap (m * n)), by simp [binOp, Op.intArith], .int _ _⟩
  · exact ⟨.bool (m == n), by simp [binOp, Op.intCmp], by show VR E (.bool (eqI m n)) _; rw [eqI_eq]; exact .bool _⟩
  · exact ⟨.bool (m != n), by simp [binOp, Op.intCmp], by show VR E (.bool (!eqI m n)) _; rw [eqI_eq]; exact .bool _⟩
  · exact ⟨.bool (decide (m < n)), by simp [binOp, Op.intCmp], by show VR E (.bool (!leI n m)) _; rw [leI_eq, not_dec]; exact .bool _⟩
  · exact ⟨.bool (decide (m ≤ n)), by simp [binOp, Op.intCmp], by show VR E (.bool (leI m n)) _; rw [leI_eq]; exact .bool _⟩
  · exact ⟨.bool (decide (n < m)), by simp [binOp, Op.intCmp], by show VR E (.bool (!leI m n)) _; rw [leI_eq, not_dec]; exact .bool _⟩
  · exact ⟨.bool (decide (n ≤ m)), by simp [binOp, Op.intCmp], by show VR E (.bool (leI n m)) _; rw [leI_eq]; exact .bool _⟩

theorem toList_eq_data (s : ByteArray) : s.toList = s.data.toList := ByteArray.toList_eq s

theorem str_eq (x y : ByteArray) : eqNs (x.data.toList.map (·.toNat)) (y.data.toList.map (·.toNat)) = (x.toList == y.toList) := by
  rw [eqNs_eq, toList_eq_data, toList_eq_data, Bool.eq_iff_iff]
  simp only [decide_eq_true_eq, beq_iff_eq]
  exact bytes_eq_iff x y

theorem eqGuard_skip {op : BinOp} {ty : TypeId} {x y : Operand} {u v : Value} {w : World} (h1 : u ≠ .nilIface ∨ v ≠ .nilIface) (h2 : ∀ cs, u ≠ .agg cs) : (eqGuard op ty x y u v).run P w = .ok () w := by
  cases op <;> first | rfl | (cases u <;> first | rfl | exact absurd rfl (h2 _) | (rcases h1 with h1 | h1; exact absurd rfl h1; cases v <;> first | rfl | exact absurd rfl h1))

theorem vr_nilS {v : Value} (h : VR E (.lst [] 0 true true) v) : v = .slice none 0 0 := by
  cases h with
  | lst h hl ht hn hc hz =>
    rename_i a
    have := ht rfl
    subst this
    cases a with
    | none => rfl
    | some _ => simp at hn

theorem nilEq_run (d0 : Nat) {ty : TypeId} {u v : AV} {x y : Value} {b : Bool} (h : nilEq (P.underlying ty) u v = some b) (hu : VR E u x) (hv : VR E v y) :
    (Op.equalIn (d0 + 1) ty x y).run P w = .ok b w ∧ (x ≠ .nilIface ∨ y ≠ .nilIface) ∧ ∀ cs, x ≠ .agg cs := by
  cases hd : P.underlying ty with
  | none => rw [hd] at h; simp [nilEq] at h
  | some d =>
    rw [hd] at h
    cases d with
    | pointer e =>
      simp only [nilEq] at h
      split at h <;> cases h
      all_goals (cases hu; cases hv; exact ⟨by simp [Op.equalIn, run_underlying hd], by simp, by simp⟩)
    | slice e =>
      simp only [nilEq] at h
      split at h <;> cases h
      · have := vr_nilS hv
        subst this
        cases hu with
        | lst h1 h2 h3 h4 h5 h6 =>
          rename_i a
          subst h4
          cases a <;> exact ⟨by simp [Op.equalIn, run_underlying hd], by simp, by simp⟩
      · have := vr_nilS hu
        subst this
        cases hv with
        | lst h1 h2 h3 h4 h5 h6 =>
          rename_i a
          subst h4
          cases a <;> exact ⟨by simp [Op.equalIn, run_underlying hd], by simp, by simp⟩
      · have := vr_nilS hv
        subst this
        cases hu with
        | sl h1 h2 h3 h4 =>
          obtain ⟨e, _⟩ := h4 (by omega)
          subst e
          exact ⟨by simp [Op.equalIn, run_underlying hd], by simp, by simp⟩
      · have := vr_nilS hu
        subst this
        cases hv with
        | sl h1 h2 h3 h4 =>
          obtain ⟨e, _⟩ := h4 (by omega)
          subst e
          exact ⟨by simp [Op.equalIn, run_underlying hd], by simp, by simp⟩
    | map k e =>
      simp only [nilEq] at h
      split at h <;> cases h
      all_goals (cases hu; cases hv; exact ⟨by simp [Op.equalIn, run_underlying hd], by simp, by simp⟩)
    | func a b c =>
      simp only [nilEq] at h
      split at h <;> cases h
      all_goals (cases hu; cases hv; exact ⟨by simp [Op.equalIn, run_underlying hd], by simp, by simp⟩)
    | interface ms =>
      simp only [nilEq] at h
      split at h <;> cases h
      all_goals (cases hu; cases hv; exact ⟨by simp [Op.equalIn, run_underlying hd], by simp, by simp⟩)
    | _ => simp [nilEq] at h

theorem binOp_eql {ty : TypeId} {u v : AV} {x y : Value} {b : Bool} (h : nilEq (P.underlying ty) u v = some b) (hu : VR E u x) (hv : VR E v y) :
    (binOp .eql ty x y).run P w = .ok (.bool b) w ∧ (binOp .neq ty x y).run P w = .ok (.bool !b) w := by
  obtain ⟨h1, _, _⟩ := nilEq_run (w := w) 9999 h hu hv
  have h1 : (Op.equal ty x y).run P w = .ok b w := h1
  unfold nilEq at h
  have key : (∀ k n, x ≠ .int k n) ∧ (∀ k n, x ≠ .float k n) ∧ (∀ k a b, x ≠ .complex k a b) ∧ (∀ s, x ≠ .string s) := by
    repeat' (split at h)
    all_goals first | (cases h; done) | (cases hu <;> exact ⟨by simp, by simp, by simp, by simp⟩)
  obtain ⟨k1, k2, k3, k4⟩ := key
  cases x <;> first | exact absurd rfl (k1 _ _) | exact absurd rfl (k2 _ _) | exact absurd rfl (k3 _ _ _) | exact absurd rfl (k4 _) | exact ⟨by simp [binOp, h1], by simp [binOp, h1]⟩

theorem nilEqC_ok (h : Rel E s w) (hG : GlobOk E G w) (ht : TR E t a) {op : BinOp} {neg : Bool} {ty yt : TypeId} {x y : Operand} (ho : o.op = .binOp op ty x y yt) (hop : (op = .eql ∧ neg = false) ∨ (op = .neq ∧ neg = true)) {k : OpF}
    (hk : OpOk P E s w o a (k t s)) : OpOk P E s w o a (nilEqC (P.underlying ty) neg (evC G x) (evC G y) k t s) := by
  have hx := evC_ok hG ht x
  have hy := evC_ok hG ht y
  unfold nilEqC
  split
  · rename_i b e
    obtain ⟨_, h2, h3⟩ := nilEq_run (w := w) 0 e hx hy
    obtain ⟨h4, h5⟩ := binOp_eql (w := w) e hx hy
    rcases hop with ⟨rfl, rfl⟩ | ⟨rfl, rfl⟩
    · exact .ofVal h (run_binOp ho rfl rfl (eqGuard_skip h2 h3) h4) (.bool _)
    · exact .ofVal h (run_binOp ho rfl rfl (eqGuard_skip h2 h3) h5) (.bool _)
  · exact hk

theorem ptrEqC_ok (h : Rel E s w) (hG : GlobOk E G w) (ht : TR E t a) {op : BinOp} {neg : Bool} {ty yt : TypeId} {x y : Operand} (ho : o.op = .binOp op ty x y yt) (hop : (op = .eql ∧ neg = false) ∨ (op = .neq ∧ neg = true)) {k : OpF}
    (hk : OpOk P E s w o a (k t s)) : OpOk P E s w o a (ptrEqC (ptrT P ty) neg (evC G x) (evC G y) k t s) := by
  have hx := evC_ok hG ht x
  have hy := evC_ok hG ht y
  unfold ptrEqC
  split
  · rename_i r m q n e1 e2
    rw [e1] at hx
    rw [e2] at hy
    rcases Bool.eq_false_or_eq_true (ptrT P ty && (r.beq q && m.beq n)) with hb | hb
    · rw [cond_of_true hb]
      simp only [Bool.and_eq_true] at hb
      have e3 := Nat.eq_of_beq_eq_true hb.2.1
      have e4 := Nat.eq_of_beq_eq_true hb.2.2
      subst e3 e4
      have hpt := hb.1
      unfold ptrT at hpt
      split at hpt
      · rename_i e hu
        obtain ⟨z, hz⟩ := Option.isSome_iff_exists.1 hpt
        unfold sizeT at hz
        obtain ⟨i, hi, _⟩ := Option.map_eq_some_iff.1 hz
        generalize hv1 : a.eval x = v1 at hx
        generalize hv2 : a.eval y = v2 at hy
        cases hx with
        | ptr off1 l1 =>
          cases hy with
          | ptr off2 l2 =>
            rename_i b base _ _
            rw [l1] at l2
            cases l2
            have heq : ∀ d : Nat, (Op.equalIn (d + 1) ty (.pointer (some ⟨b, base + m, none⟩)) (.pointer (some ⟨b, base + m, none⟩))).run P w = .ok true w := fun d => by
              simp [Op.equalIn, run_underlying hu, sizeOf, typeInfo, hi, run_sameAddr_same]
            have h2 : (Op.equal ty (.pointer (some ⟨b, base + m, none⟩)) (.pointer (some ⟨b, base + m, none⟩))).run P w = .ok true w := heq 9999
            rcases hop with ⟨rfl, rfl⟩ | ⟨rfl, rfl⟩
            · exact .ofVal h (run_binOp ho hv1 hv2 (eqGuard_skip (.inl (by simp)) (by simp)) (r := .bool true) (by simp [binOp, h2])) (.bool _)
            · exact .ofVal h (run_binOp ho hv1 hv2 (eqGuard_skip (.inl (by simp)) (by simp)) (r := .bool false) (by simp [binOp, h2])) (.bool _)
      · cases hpt
    · rw [cond_of_false hb]; trivial
  · exact hk

theorem intsEq_run {a b : List AV} {xs ys : List Value} (ha : VRL E a xs) (hb : VRL E b ys) (d : Nat) : ∀ {fs : List Field} {u : Bool}, intsEq P a b fs = some u → (Op.eqFields (d + 1) ⟨xs⟩ ⟨ys⟩ fs).run P w = .ok u w
  | [], u, h => by simp only [intsEq, Option.some.injEq] at h; subst h; rfl
  | f :: fs, u, h => by
    simp only [intsEq] at h
    split at h
    · rename_i k m k' n e1 e2
      rcases Bool.eq_false_or_eq_true (kindEq k k' && (f.name != "_" && intT P f.type)) with hc | hc
      · rw [cond_of_true hc] at h
        simp only [Bool.and_eq_true] at hc
        have hkk := kindEq_eq hc.1
        subst hkk
        have hname : f.name ≠ "_" := by simpa using hc.2.1
        have hint := hc.2.2
        unfold intT at hint
        split at hint
        · rename_i kd hu
          obtain ⟨v1, h1, h1'⟩ := ha.at_ e1
          obtain ⟨v2, h2, h2'⟩ := hb.at_ e2
          cases h1'
          cases h2'
          have p1 : (part f.type ⟨xs⟩ f.offset).run P w = .ok (.int k m) w := by simp [part, isAgg, run_underlying hu, h1]
          have p2 : (part f.type ⟨ys⟩ f.offset).run P w = .ok (.int k n) w := by simp [part, isAgg, run_underlying hu, h2]
          split at h
          · rename_i u' hu'
            cases h
            have ih := intsEq_run ha hb d hu'
            rw [eqI_eq]
            unfold Op.eqFields
            rw [if_pos hname]
            simp only [Sem.run_bind, p1, p2, Result.andThen_ok, run_equalIn_int w d f.type k kd m n hu]
            by_cases hmn : m = n
            · subst hmn; simp [ih]
            · have : (m == n) = false := by simpa using hmn
              simp [this, hmn]
          · cases h
        · cases hint
      · rw [cond_of_false hc] at h; cases h
    · cases h

theorem structEqC_ok (h : Rel E s w) (hG : GlobOk E G w) (ht : TR E t a) {op : BinOp} {neg : Bool} {ty yt : TypeId} {x y : Operand} (ho : o.op = .binOp op ty x y yt) (hop : (op = .eql ∧ neg = false) ∨ (op = .neq ∧ neg = true)) {k : OpF}
    (hk : OpOk P E s w o a (k t s)) : OpOk P E s w o a (structEqC P ty neg (evC G x) (evC G y) k t s) := by
  have hx := evC_ok hG ht x
  have hy := evC_ok hG ht y
  suffices key : ∀ F, structEqC P ty neg (evC G x) (evC G y) k = F → OpOk P E s w o a (F t s) from key _ rfl
  intro F hF
  unfold structEqC at hF
  split at hF
  · rename_i fields hf
    rcases Bool.eq_false_or_eq_true (!P.stoodInHeld ty && !P.eqGuardType P.depth ty) with hb | hb
    · rw [cond_of_true hb] at hF
      subst hF
      simp only [Bool.and_eq_true, Bool.not_eq_true'] at hb
      simp only
      split
      · rename_i l r e1 e2
        rw [e1] at hx
        rw [e2] at hy
        split
        · rename_i u hu
          generalize hv1 : a.eval x = v1 at hx
          generalize hv2 : a.eval y = v2 at hy
          cases hx with
          | agg hx =>
            rename_i xs
            cases hy with
            | agg hy =>
              rename_i ys
              have hfs : P.fieldsOf ty = fields := by unfold Program.fieldsOf; rw [hf]
              have heq : (Op.equalIn 10000 ty (.agg ⟨xs⟩) (.agg ⟨ys⟩)).run P w = .ok u w := by
                rw [show (10000 : Nat) = 9998 + 1 + 1 from rfl, run_equalIn_struct w (9998 + 1) ty ⟨xs⟩ ⟨ys⟩ (by rw [hfs]; exact hf) hb.1, hfs]
                exact intsEq_run hx hy 9998 hu
              rcases hop with ⟨rfl, rfl⟩ | ⟨rfl, rfl⟩
              · exact .ofVal h (run_binOp ho hv1 hv2 (run_eqGuard_agg w _ _ _ _ _ _ hb.2) (r := .bool u) (by rw [run_eql_struct, heq]; rfl)) (.bool _)
              · exact .ofVal h (run_binOp ho hv1 hv2 (run_eqGuard_agg w _ _ _ _ _ _ hb.2) (r := .bool !u) (by rw [run_neq_struct, heq]; rfl)) (.bool _)
        · exact hk
      · exact hk
    · rw [cond_of_false hb] at hF; subst hF; exact hk
  · subst hF; exact hk

theorem elseC_ok (h : Rel E s w) (hG : GlobOk E G w) (ht : TR E t a) {op : BinOp} {ty yt : TypeId} {x y : Operand} (ho : o.op = .binOp op ty x y yt) :
    OpOk P E s w o a (elseC P G o op ty (evC G x) (evC G y) t s) := by
  have hp : OpOk P E s w o a (plainC P G o t s) := plainC_ok h hG ht (by intro cs b; rw [ho]; simp)
  cases op <;> first | exact structEqC_ok h hG ht ho (.inl ⟨rfl, rfl⟩) (ptrEqC_ok h hG ht ho (.inl ⟨rfl, rfl⟩) (nilEqC_ok h hG ht ho (.inl ⟨rfl, rfl⟩) hp)) | exact structEqC_ok h hG ht ho (.inr ⟨rfl, rfl⟩) (ptrEqC_ok h hG ht ho (.inr ⟨rfl, rfl⟩) (nilEqC_ok h hG ht ho (.inr ⟨rfl, rfl⟩) hp)) | exact hp

theorem binInt_ok (h : Rel E s w) (hG : GlobOk E G w) (ht : TR E t a) {op : BinOp} {ty yt : TypeId} {x y : Operand} (ho : o.op = .binOp op ty x y yt)
    {f : IntKind → Int → Int → AV} (hf : intOp op = some f) : OpOk P E s w o a (binInt (elseC P G o op ty (evC G x) (evC G y)) f (evC G x) (evC G y) t s) := by
  have hx := evC_ok hG ht x
  have hy := evC_ok hG ht y
  unfold binInt
  split
  · rename_i k m k' n e1 e2
    rw [e1] at hx
    rw [e2] at hy
    rcases Bool.eq_false_or_eq_true (kindEq k k') with hk | hk
    · rw [cond_of_true hk]
      have := kindEq_eq hk
      subst this
      generalize hu : a.eval x = u at hx
      generalize hv : a.eval y = v at hy
      cases hx
      cases hy
      obtain ⟨r, h1, h2⟩ := intOp_run (P := P) (E := E) (w := w) hf ty k m n
      exact .ofVal h (run_binOp ho hu hv (eqGuard_int _ _ _ _ _ _ _ _) h1) h2
    · rw [cond_of_false hk]; trivial
  · exact elseC_ok h hG ht ho

theorem strOp_run {op : BinOp} {g : List Nat → List Nat → AV} (hg : strOp op = some g) (ty : TypeId) (x y : ByteArray) :
    ∃ r, VR E (g (x.data.toList.map (·.toNat)) (y.data.toList.map (·.toNat))) r ∧ ((binOp op ty (.string x) (.string y)).run P w = .ok r w ∨ g (x.data.toList.map (·.toNat)) (y.data.toList.map (·.toNat)) = .undef) := by
  cases op <;> simp only [strOp, Option.some.injEq] at hg <;> first | (cases hg; done) | subst hg
  · simp only [List.length_map, Array.length_toList]
    rcases Bool.eq_false_or_eq_true (Nat.ble (x.data.size + y.data.size) 9223372036854775807) with hb | hb
    · rw [cond_of_true hb]
      have hle := Nat.le_of_ble_eq_true hb
      refine ⟨.string (x ++ y), ?_, .inl ?_⟩
      · have : (x.data.toList.map (·.toNat)) ++ (y.data.toList.map (·.toNat)) = ((x ++ y).data.toList.map (·.toNat)) := by simp
        rw [this]; exact .str _
      · have : ¬ (((x.size + y.size : Nat) : Int) > IntKind.i64.max) := by
          have e1 : IntKind.i64.max = 9223372036854775807 := by decide
          rw [e1]
          have e2 : x.size = x.data.size := rfl
          have e3 : y.size = y.data.size := rfl
          omega
        simp only [binOp, Op.stringOp]
        rw [if_neg this]
        rfl
    · rw [cond_of_false hb]
      exact ⟨.nilFunc, .undef _, .inr rfl⟩
  · exact ⟨.bool (x.toList == y.toList), by show VR E (.bool (eqNs _ _)) _; rw [str_eq]; exact .bool _, .inl (by simp [binOp, Op.stringOp])⟩
  · exact ⟨.bool (!(x.toList == y.toList)), by show VR E (.bool (!eqNs _ _)) _; rw [str_eq]; exact .bool _, .inl (by simp [binOp, Op.stringOp])⟩
end
end Go.Am
end
section
set_option autoImplicit false
namespace Go.Am

section
variable {P : Program} {G : Glob} {E : Env} {s : St} {w : World} {t : T} {a : Act} {o : Oper}

theorem isAgg_run {ty : TypeId} {b : Bool} (h : isAggT P ty = some b) (w : World) : (isAgg ty).run P w = .ok b w := by
  unfold isAggT at h
  cases hu : P.underlying ty with
  | none => rw [hu] at h; cases h
  | some d => rw [hu] at h; cases d <;> cases h <;> simp [isAgg, run_underlying hu]
theorem sizeT_run {ty : TypeId} {n : Nat} (h : sizeT P ty = some n) (w : World) : (sizeOf ty).run P w = .ok n w := by
  unfold sizeT at h
  cases hi : P.info? ty with
  | none => rw [hi] at h; cases h
  | some i => rw [hi] at h; cases h; simp [sizeOf, typeInfo, hi]
theorem bytesT_info {ty : TypeId} {n : Nat} (h : bytesT P ty = some n) : ∃ i, P.info? ty = some i ∧ i.bytes = n := by
  unfold bytesT at h
  cases hi : P.info? ty with
  | none => rw [hi] at h; cases h
  | some i => rw [hi] at h; cases h; exact ⟨i, rfl, rfl⟩
theorem sizeT_info {ty : TypeId} {n : Nat} (h : sizeT P ty = some n) : ∃ i, P.info? ty = some i ∧ i.size = n := by
  unfold sizeT at h
  cases hi : P.info? ty with
  | none => rw [hi] at h; cases h
  | some i => rw [hi] at h; cases h; exact ⟨i, rfl, rfl⟩
theorem zeroT_info {ty : TypeId} {z : AV} (h : zeroT P ty = some z) : ∃ i z', P.info? ty = some i ∧ i.zero = some z' ∧ ofV z' = some z := by
  unfold zeroT at h
  cases hi : P.info? ty with
  | none => rw [hi] at h; simp at h
  | some i =>
    cases hz : i.zero with
    | none => rw [hi] at h; simp [hz] at h
    | some z' => rw [hi] at h; simp [hz] at h; exact ⟨i, z', rfl, hz, h⟩
theorem zeroT_run {ty : TypeId} {z : AV} (h : zeroT P ty = some z) (w : World) : ∃ z', ofV z' = some z ∧ (zeroValue ty).run P w = .ok z' w := by
  obtain ⟨i, z', h1, h2, h3⟩ := zeroT_info h
  exact ⟨z', h3, by simp [zeroValue, typeInfo, h1, h2]⟩
theorem sliceElemT_und {ty e : TypeId} (h : sliceElemT P ty = some e) : P.underlying ty = some (.slice e) := by
  unfold sliceElemT at h
  split at h
  · rename_i e' he; cases h; exact he
  · cases h
theorem shapeT_agg {ty : TypeId} {n : Nat} (h : shapeT P ty = some (some n)) : isAggT P ty = some true ∧ sizeT P ty = some n := by
  unfold shapeT at h
  split at h <;> cases h
  rename_i h1 h2
  exact ⟨h1, h2⟩
theorem shapeT_one {ty : TypeId} (h : shapeT P ty = some none) : isAggT P ty = some false := by
  unfold shapeT at h
  split at h <;> cases h
  rename_i h1 h2
  exact h1

theorem ofV_ne : ∀ {v : Value}, ofV v ≠ some .undef := by
  intro v h
  cases v with
  | pointer p => cases p <;> simp [ofV] at h
  | map p => cases p <;> simp [ofV] at h
  | slice p n c => cases p <;> cases n <;> cases c <;> simp [ofV] at h
  | iface t v => simp only [ofV] at h; split at h <;> cases h
  | agg cs => cases cs; simp only [ofV] at h; split at h <;> cases h
  | tuple cs => cases cs; simp only [ofV] at h; split at h <;> cases h
  | func f x y =>
    obtain ⟨x⟩ := x
    obtain ⟨y⟩ := y
    cases x <;> cases y <;> simp [ofV] at h
  | _ => simp [ofV] at h

theorem VR.cells {x : AV} {v : Value} (h : VR E x v) (hx : x ≠ .undef) : VRL E x.cells v.cells.toList := by
  have key : (x.cells = [x] ∧ v.cells.toList = [v]) ∨ ∃ cs vs, x = .agg cs ∧ v = .agg ⟨vs⟩ ∧ VRL E cs vs := by
    cases h with
    | agg h => exact .inr ⟨_, _, rfl, rfl, h⟩
    | lit v h => exact .inl ⟨rfl, by cases v <;> first | rfl | simp [Value.oneCell'] at h⟩
    | undef => exact absurd rfl hx
    | _ => exact .inl ⟨rfl, rfl⟩
  rcases key with ⟨e1, e2⟩ | ⟨cs, vs, rfl, rfl, h2⟩
  · rw [e1, e2]; exact .cons h .nil
  · exact h2
theorem single_ne {x : AV} (h : x.cells.all AV.single = true) : x ≠ .undef := by
  rintro rfl; simp [AV.cells, AV.single] at h

theorem loadC_ok (h : Rel E s w) (hG : GlobOk E G w) (ht : TR E t a) {ty : TypeId} {x : Operand} (ho : o.op = .load ty x) : OpOk P E s w o a (loadC (shapeT P ty) (evC G x) t s) := by
  have hx := evC_ok hG ht x
  cases hs : shapeT P ty with
  | none => trivial
  | some sh =>
    cases sh with
    | some n =>
      obtain ⟨h1, h2⟩ := shapeT_agg hs
      refine aggO_ok h fun y hy => ?_
      obtain ⟨b, off, vs, e1, e2, e3, e4⟩ := h.cells hy hx
      refine ⟨.agg ⟨vs⟩, ?_, .agg e2⟩
      have hl : (loadCells ⟨b, off, none⟩ n).run P w = .ok ⟨vs⟩ w := by
        have := run_loadCells_list (P := P) (w := w) ⟨b, off, none⟩ vs (fun j v hj => by rw [Addr.add_lit]; exact e4 j v hj)
        rw [← e2.length, e3] at this
        exact this
      simp [execOp, ho, e1, Instr.loadAt, Instr.sureAddr, loadVar, isAgg_run h1, sizeT_run h2, hl]
    | none =>
      have h1 := shapeT_one hs
      refine valO_ok h fun y hy => ?_
      obtain ⟨b, off, u, e1, e2, e3⟩ := h.cell1 hy hx
      refine ⟨u, ?_, e2⟩
      simp [execOp, ho, e1, Instr.loadAt, Instr.sureAddr, loadVar, isAgg_run h1, e3]

theorem skipO_ok {x : Option St} (hx : ∀ s', x = some s' → ∃ w' E', (execOp a.eval o).run P w = .ok .skip w' ∧ Step E s w E' s' w') : OpOk P E s w o a (skipO x) := by
  unfold skipO
  split
  · rename_i s'; exact hx s' rfl
  · trivial

theorem storeC_ok (h : Rel E s w) (hG : GlobOk E G w) (ht : TR E t a) {ty : TypeId} {x y : Operand} (ho : o.op = .store ty x y) : OpOk P E s w o a (storeC (sizeT P ty) (evC G x) (evC G y) t s) := by
  have hx := evC_ok hG ht x
  have hy := evC_ok hG ht y
  cases hs : sizeT P ty with
  | none => trivial
  | some n =>
    simp only [storeC]
    split
    · rename_i r off e1
      rw [e1] at hx
      rcases Bool.eq_false_or_eq_true (n.beq (evC G y t).cells.length && (evC G y t).cells.all AV.single) with hb | hb
      · rw [cond_of_true hb]
        rw [Bool.and_eq_true] at hb
        have hn := Nat.eq_of_beq_eq_true hb.1
        have hc := hy.cells (single_ne hb.2)
        refine skipO_ok fun s' hs' => ?_
        generalize hu : a.eval x = u at hx
        cases hx with
        | ptr off hloc =>
          obtain ⟨c, cty, g1, g2, g3⟩ := Step.store h hs' hc hloc
          refine ⟨_, E, ?_, g3⟩
          have hst := run_storeCells_at P _ _ cty (a.eval y).cells.toList 0 c w g1 (by simpa using g2) (hc.single hb.2)
          simp only [Nat.add_zero] at hst
          have hsz : (a.eval y).cells.size = n := by rw [hn, hc.length]; simp
          simp [execOp, ho, hu, Instr.storeAt, Instr.sureAddr, storeVar, sizeT_run hs, hsz, hst]
      · rw [cond_of_false hb]; trivial
    · trivial

theorem run_box (w : World) (e : TypeId) (v : Value) : (Instr.box e v).run P w = .ok (.pointer (some ⟨w.heap.size, 0, none⟩)) (w.alloc (.cells v.cells e)) := by
  simp [Instr.box, newVar, Go.newRow]

theorem boxC_ok (h : Rel E s w) (hG : GlobOk E G w) (ht : TR E t a) {ty : TypeId} {x : Operand} (ho : o.op = .box ty x) : OpOk P E s w o a (boxC ty (evC G x) t s) := by
  have hx := evC_ok hG ht x
  unfold boxC
  rcases Bool.eq_false_or_eq_true ((evC G x t).cells.all AV.single) with hb | hb
  · rw [cond_of_true hb]
    have hc := hx.cells (single_ne hb)
    refine .inl ⟨_, _, _, ?_, Step.alloc h hc (a.eval x).cells ty (fun i v hi => by simpa using hi) (by rw [hc.length]; simp), VR.newPtr _ _ _ _⟩
    simp [execOp, ho, run_box]
  · rw [cond_of_false hb]; trivial

theorem allocC_ok (h : Rel E s w) {ty : TypeId} (ho : o.op = .alloc ty) : OpOk P E s w o a (allocC ty (zeroT P ty) t s) := by
  cases hz : zeroT P ty with
  | none => trivial
  | some z =>
    obtain ⟨z', h1, h2⟩ := zeroT_run hz w
    have hc := (ofV_ok E h1).cells (fun e => ofV_ne (by rw [h1, e]))
    refine .inl ⟨_, _, _, ?_, Step.alloc h hc z'.cells ty (fun i v hi => by simpa using hi) (by rw [hc.length]; simp), VR.newPtr _ _ _ _⟩
    simp [execOp, ho, Instr.alloc, h2, newVar, Go.newRow]
end
end Go.Am
end
section
set_option autoImplicit false
namespace Go.Am

section
variable {P : Program} {G : Glob} {E : Env} {s : St} {w : World} {t : T} {a : Act} {o : Oper}

theorem natOf_ok {x : AV} {n : Nat} (h : natOf x = some n) {v : Value} (hv : VR E x v) : ∃ k, v = .int k n := by
  unfold natOf at h
  split at h
  · cases h; cases hv; exact ⟨_, rfl⟩
  · cases h

theorem nilCheckC_ok (h : Rel E s w) (hG : GlobOk E G w) (ht : TR E t a) {x : Operand} (ho : o.op = .nilCheck x) : OpOk P E s w o a (nilCheckC (evC G x) t s) := by
  have hx := evC_ok hG ht x
  generalize hv : a.eval x = v at hx
  unfold nilCheckC
  split
  · rename_i e; rw [e] at hx; cases hx with
    | ptr off hl => exact .ofVal h (v := a.eval x) (by simp [execOp, ho, hv]) (by rw [hv]; exact .ptr _ hl)
  · rename_i e; rw [e] at hx; cases hx with
    | ptrL off h1 h2 => exact .ofVal h (v := a.eval x) (by simp [execOp, ho, hv]) (by rw [hv]; exact .ptrL _ h1 h2)
  · rename_i e; rw [e] at hx; cases hx with
    | hp h1 => exact .ofVal h (v := a.eval x) (by simp [execOp, ho, hv]) (by rw [hv]; exact .hp h1)
  · rename_i e; rw [e] at hx; cases hx with
    | fn h1 h2 => exact .ofVal h (v := a.eval x) (by simp [execOp, ho, hv]) (by rw [hv]; exact .fn h1 h2)
  · trivial

theorem ptrAdd_ok {x y : AV} {n : Nat} (h : ptrAdd x n = some y) {v : Value} (hv : VR E x v) : ∃ b off, v = .pointer (some ⟨b, off, none⟩) ∧ VR E y (.pointer (some ⟨b, off + n, none⟩)) := by
  unfold ptrAdd at h
  split at h
  · cases h; cases hv with
    | ptr off hl => exact ⟨_, _, rfl, by rw [Nat.add_assoc]; exact .ptr _ hl⟩
  · cases h; cases hv with
    | ptrL off h1 h2 => exact ⟨_, _, rfl, by rw [Nat.add_assoc]; exact .ptrL _ h1 h2⟩
  · cases h

theorem fieldAddrC_ok (h : Rel E s w) (hG : GlobOk E G w) (ht : TR E t a) {ty : TypeId} {x : Operand} {f : Nat} (ho : o.op = .fieldAddr ty x f) : OpOk P E s w o a (fieldAddrC P ty f (evC G x) t s) := by
  have hx := evC_ok hG ht x
  unfold fieldAddrC
  cases hu : P.underlying ty with
  | none => trivial
  | some d =>
    cases d with
    | struct fields =>
      cases hf : fields[f]? with
      | none => simp only [hf]; trivial
      | some fd =>
        simp only [hf]
        cases hs : sizeT P fd.type with
        | none => trivial
        | some n =>
          cases n with
          | zero => trivial
          | succ n =>
            refine valO_ok h fun y hy => ?_
            obtain ⟨b, off, e1, e2⟩ := ptrAdd_ok hy hx
            refine ⟨_, ?_, e2⟩
            simp [execOp, ho, e1, Instr.fieldAt, run_underlying hu, hf, Instr.sureAddr, fieldPlace, sizeT_run hs, Addr.add_lit]
    | _ => trivial

theorem part_agg {ty : TypeId} {n off : Nat} {cs y : List AV} {vs : List Value} (h1 : isAggT P ty = some true) (h2 : sizeT P ty = some n) (hc : VRL E cs vs) (hy : cutN n off cs = some y) (w : World) :
    ∃ us, (part ty ⟨vs⟩ off).run P w = .ok (.agg ⟨us⟩) w ∧ VRL E y us := by
  obtain ⟨e1, e2⟩ := takeN_eq hy
  refine ⟨(vs.drop off).take n, ?_, by rw [e1]; exact (hc.drop off).take n⟩
  simp [part, isAgg_run h1, sizeT_run h2]

theorem part_one {ty : TypeId} {off : Nat} {cs : List AV} {y : AV} {vs : List Value} (h1 : isAggT P ty = some false) (hc : VRL E cs vs) (hy : cs[off]? = some y) (w : World) :
    ∃ u, (part ty ⟨vs⟩ off).run P w = .ok u w ∧ VR E y u := by
  obtain ⟨u, h2, h3⟩ := hc.at_ hy
  exact ⟨u, by simp [part, isAgg_run h1, h2], h3⟩

theorem fieldC_ok (h : Rel E s w) (hG : GlobOk E G w) (ht : TR E t a) {ty : TypeId} {x : Operand} {f : Nat} (ho : o.op = .field ty x f) : OpOk P E s w o a (fieldC P ty f (evC G x) t s) := by
  have hx := evC_ok hG ht x
  generalize hv : a.eval x = v at hx
  unfold fieldC
  cases hu : P.underlying ty with
  | none => trivial
  | some d =>
    cases d with
    | struct fields =>
      cases hf : fields[f]? with
      | none => simp only [hf]; trivial
      | some fd =>
        simp only [hf]
        cases hs : shapeT P fd.type with
        | none => trivial
        | some sh =>
          cases sh with
          | some n =>
            simp only
            split
            · rename_i cs e
              rw [e] at hx
              cases hx with
              | agg hc =>
                refine aggO_ok h fun y hy => ?_
                obtain ⟨k1, k2⟩ := shapeT_agg hs
                obtain ⟨us, e1, e2⟩ := part_agg (P := P) k1 k2 hc hy w
                exact ⟨_, by simp [execOp, ho, hv, Instr.field, run_underlying hu, hf, asAgg, e1], .agg e2⟩
            · trivial
          | none =>
            simp only
            split
            · rename_i cs e
              rw [e] at hx
              cases hx with
              | agg hc =>
                refine valO_ok h fun y hy => ?_
                obtain ⟨u, e1, e2⟩ := part_one (P := P) (shapeT_one hs) hc hy w
                exact ⟨_, by simp [execOp, ho, hv, Instr.field, run_underlying hu, hf, asAgg, e1], e2⟩
            · trivial
    | _ => trivial

theorem indexAddrC_ok (h : Rel E s w) (hG : GlobOk E G w) (ht : TR E t a) {ty : TypeId} {x i : Operand} (ho : o.op = .indexAddr ty x i) : OpOk P E s w o a (indexAddrC P ty (evC G x) (evC G i) t s) := by
  have hx := evC_ok hG ht x
  have hi := evC_ok hG ht i
  generalize hv : a.eval x = v at hx
  generalize hiv : a.eval i = iv at hi
  unfold indexAddrC
  cases hu : P.underlying ty with
  | none => trivial
  | some d =>
    cases d with
    | slice e =>
      simp only
      cases hs : sizeT P e with
      | none => trivial
      | some n =>
        simp only
        split
        · rename_i k r off len es tight e1 e2
          obtain ⟨kk, rfl⟩ := natOf_ok e1 hi
          rw [e2] at hx
          rcases Bool.eq_false_or_eq_true (Nat.blt k len && n.beq es) with hb | hb
          · rw [cond_of_true hb]
            rw [Bool.and_eq_true] at hb
            have hlt : k < len := Nat.le_of_ble_eq_true hb.1
            have hn := Nat.eq_of_beq_eq_true hb.2
            subst hn
            cases hx with
            | sl hl hle htt hc =>
              obtain ⟨e3, _⟩ := hc (by omega)
              subst e3
              refine .ofVal h (v := .pointer (some ⟨_, _ + off + k * n, none⟩)) ?_ (by rw [Nat.add_assoc]; exact .ptr _ hl)
              simp [execOp, ho, hv, hiv, Instr.indexAt, asIntOf, run_underlying hu, sizeT_run hs, hlt, Addr.add_lit]
          · rw [cond_of_false hb]; trivial
        · rename_i k cs len tight nl e1 e2
          obtain ⟨kk, rfl⟩ := natOf_ok e1 hi
          rw [e2] at hx
          rcases Bool.eq_false_or_eq_true (Nat.blt k len && nonNil cs) with hb | hb
          · rw [cond_of_true hb]
            rw [Bool.and_eq_true] at hb
            have hlt : k < len := Nat.le_of_ble_eq_true hb.1
            cases hx with
            | lst hcs hle htt hn hc hz =>
              rename_i vs cap ad
              cases ad with
              | none => have := hc rfl; omega
              | some ad =>
                have hvs : vs ≠ [] := by
                  rintro rfl
                  cases hcs
                  simp [nonNil] at hb
                obtain ⟨b, base, e3, e4⟩ := hz hvs
                cases e3
                refine .ofVal h (v := .pointer (some ⟨b, base + k * n, none⟩)) ?_ (.ptrL _ hcs e4)
                simp [execOp, ho, hv, hiv, Instr.indexAt, asIntOf, run_underlying hu, sizeT_run hs, hlt, Addr.add_lit]
          · rw [cond_of_false hb]; trivial
        · trivial
    | array len e =>
      simp only
      cases hs : sizeT P e with
      | none => trivial
      | some n =>
        simp only
        split
        · rename_i k e1
          obtain ⟨kk, rfl⟩ := natOf_ok e1 hi
          rcases Bool.eq_false_or_eq_true (Nat.blt k len) with hb | hb
          · rw [cond_of_true hb]
            have hlt : k < len := Nat.le_of_ble_eq_true hb
            refine valO_ok h fun y hy => ?_
            obtain ⟨b, off, e2, e3⟩ := ptrAdd_ok hy hx
            refine ⟨_, ?_, e3⟩
            subst e2
            simp [execOp, ho, hv, hiv, Instr.indexAt, asIntOf, run_underlying hu, sizeT_run hs, hlt, Addr.add_lit, Instr.sureAddr]
          · rw [cond_of_false hb]; trivial
        · trivial
    | _ => trivial
end
end Go.Am
end
section
set_option autoImplicit false
namespace Go.Am

section
variable {P : Program} {G : Glob} {E : Env} {s : St} {w : World} {t : T} {a : Act} {o : Oper}

theorem indexC_ok (h : Rel E s w) (hG : GlobOk E G w) (ht : TR E t a) {ty : TypeId} {x i : Operand} (ho : o.op = .index ty x i) : OpOk P E s w o a (indexC P ty (evC G x) (evC G i) t s) := by
  have hx := evC_ok hG ht x
  have hi := evC_ok hG ht i
  generalize hv : a.eval x = v at hx
  generalize hiv : a.eval i = iv at hi
  unfold indexC
  cases hu : P.underlying ty with
  | none => trivial
  | some d =>
    cases d with
    | string =>
      simp only
      split
      · rename_i k l e1 e2
        obtain ⟨kk, rfl⟩ := natOf_ok e1 hi
        rw [e2] at hx
        split
        · rename_i b hb
          cases hx with
          | str bs =>
            rw [List.getElem?_map] at hb
            cases hbs : bs.data.toList[k]? with
            | none => rw [hbs] at hb; cases hb
            | some c =>
              rw [hbs] at hb
              cases hb
              refine .ofVal h (v := .int .u8 c.toNat) ?_ (.int _ _)
              have hk : bs[k]? = some c := by
                have h1 : k < bs.data.size := by
                  rcases Nat.lt_or_ge k bs.data.size with h1 | h1
                  · exact h1
                  · rw [List.getElem?_eq_none (by simpa using h1)] at hbs; cases hbs
                rw [getElem?_pos bs k h1]
                rw [List.getElem?_eq_getElem (by simpa using h1)] at hbs
                exact congrArg some (show bs.data[k] = c by simpa using hbs)
              simp [execOp, ho, hv, hiv, Instr.index, asIntOf, run_underlying hu, hk]
        · trivial
      · trivial
    | array len e =>
      cases hs : shapeT P e with
      | none => simp only [hs]; trivial
      | some sh =>
        cases sh with
        | some n =>
          simp only [hs]
          split
          · rename_i k cs e1 e2
            obtain ⟨kk, rfl⟩ := natOf_ok e1 hi
            rw [e2] at hx
            rcases Bool.eq_false_or_eq_true (Nat.blt k len) with hb | hb
            · rw [cond_of_true hb]
              have hlt : k < len := Nat.le_of_ble_eq_true hb
              cases hx with
              | agg hc =>
                refine aggO_ok h fun y hy => ?_
                obtain ⟨k1, k2⟩ := shapeT_agg hs
                obtain ⟨us, e3, e4⟩ := part_agg (P := P) k1 k2 hc hy w
                exact ⟨_, by simp [execOp, ho, hv, hiv, Instr.index, asIntOf, run_underlying hu, sizeT_run k2, hlt, e3], .agg e4⟩
            · rw [cond_of_false hb]; trivial
          · trivial
        | none =>
          cases hn : sizeT P e with
          | none => simp only [hs, hn]; trivial
          | some n =>
            simp only [hs, hn]
            split
            · rename_i k cs e1 e2
              obtain ⟨kk, rfl⟩ := natOf_ok e1 hi
              rw [e2] at hx
              rcases Bool.eq_false_or_eq_true (Nat.blt k len) with hb | hb
              · rw [cond_of_true hb]
                have hlt : k < len := Nat.le_of_ble_eq_true hb
                cases hx with
                | agg hc =>
                  refine valO_ok h fun y hy => ?_
                  obtain ⟨u, e3, e4⟩ := part_one (P := P) (shapeT_one hs) hc hy w
                  exact ⟨_, by simp [execOp, ho, hv, hiv, Instr.index, asIntOf, run_underlying hu, sizeT_run hn, hlt, e3], e4⟩
              · rw [cond_of_false hb]; trivial
            · trivial
    | _ => trivial

theorem bound_ok {x : Option Operand} (hG : GlobOk E G w) (ht : TR E t a) {d n : Nat} (h : bound d (optE (x.map (evC G)) t) = some n) :
    (x = none ∧ n = d) ∨ ∃ y k, x = some y ∧ a.eval y = .int k n := by
  cases x with
  | none => simp [optE, bound] at h; exact .inl ⟨rfl, h.symm⟩
  | some y =>
    simp only [Option.map_some, optE, bound] at h
    obtain ⟨k, hk⟩ := natOf_ok h (evC_ok hG ht y)
    exact .inr ⟨y, k, rfl, hk⟩

theorem run_sliceBound {k : IntKind} {n y : Nat} (code : BoundsCode) (h : n ≤ y) (w : World) : (Instr.sliceBound (.int k n) y code).run P w = .ok n w := by
  simp [Instr.sliceBound, asIntOf, h]

theorem run_sliceBounds (isSlice : Bool) {len cap l h m : Nat} {lo hi mx : Option Value} (hlo : (lo = none ∧ l = 0) ∨ ∃ k, lo = some (.int k l)) (hhi : (hi = none ∧ h = len) ∨ ∃ k, hi = some (.int k h))
    (hmx : (mx = none ∧ m = cap) ∨ ∃ k, mx = some (.int k m) ∧ hi.isSome = true) (h1 : l ≤ h) (h2 : h ≤ m) (h3 : m ≤ cap) (w : World) :
    (Instr.sliceBounds isSlice len cap lo hi mx).run P w = .ok (l, h, m) w := by
  unfold Instr.sliceBounds
  rcases hlo with ⟨rfl, rfl⟩ | ⟨k1, rfl⟩ <;> rcases hhi with ⟨rfl, rfl⟩ | ⟨k2, rfl⟩ <;> rcases hmx with ⟨rfl, rfl⟩ | ⟨k3, rfl, hs⟩ <;>
    simp_all [run_sliceBound]

theorem maxb_ok {x hi : Option Operand} (hG : GlobOk E G w) (ht : TR E t a) {m : AV} {mi : Nat} (h : optE (x.map (evC G)) t = some m) (hm : natOf m = some mi) {y : AV} (hy : optE (hi.map (evC G)) t = some y) :
    ∃ k, x.map a.eval = some (.int k mi) ∧ (hi.map a.eval).isSome = true := by
  cases x with
  | none => simp [optE] at h
  | some x =>
    simp only [Option.map_some, optE, Option.some.injEq] at h
    subst h
    obtain ⟨k, hk⟩ := natOf_ok hm (evC_ok hG ht x)
    cases hi with
    | none => simp [optE] at hy
    | some z => exact ⟨k, by simp [hk], rfl⟩

/-- What slicing gives, of a slice. -/
theorem sliceA_ok (hG : GlobOk E G w) (ht : TR E t a) {es : Nat} {x y : AV} {lo hi mx : Option Operand} (hx : ∀ b, x ≠ .str b)
    (h : sliceA es x (optE (lo.map (evC G)) t) (optE (hi.map (evC G)) t) (optE (mx.map (evC G)) t) = some y) {v : Value} (hv : VR E x v) (isSlice : Bool) (w : World) :
    ∃ (ad : Option Addr) (len cap l hh m : Nat), v = .slice ad len cap ∧ (Instr.sliceBounds isSlice len cap (lo.map a.eval) (hi.map a.eval) (mx.map a.eval)).run P w = .ok (l, hh, m) w ∧
      VR E y (.slice (if m = l then ad else ad.map (·.add (l * es))) (hh - l) (m - l)) := by
  have hlo : ∀ {n : Nat}, bound 0 (optE (lo.map (evC G)) t) = some n → (lo.map a.eval = none ∧ n = 0) ∨ ∃ k, lo.map a.eval = some (.int k n) := by
    intro n hn
    rcases bound_ok hG ht hn with ⟨rfl, h2⟩ | ⟨y, k, rfl, h3⟩
    · exact .inl ⟨rfl, h2⟩
    · exact .inr ⟨k, by simp [h3]⟩
  have hhi : ∀ {d n : Nat}, bound d (optE (hi.map (evC G)) t) = some n → (hi.map a.eval = none ∧ n = d) ∨ ∃ k, hi.map a.eval = some (.int k n) := by
    intro d n hn
    rcases bound_ok hG ht hn with ⟨rfl, h2⟩ | ⟨y, k, rfl, h3⟩
    · exact .inl ⟨rfl, h2⟩
    · exact .inr ⟨k, by simp [h3]⟩
  have hnone : optE (mx.map (evC G)) t = none → mx.map a.eval = none := by
    intro hn; cases mx with
    | none => rfl
    | some z => simp [optE] at hn
  unfold sliceA at h
  split at h
  · rename_i b; exact absurd rfl (hx b)
  · rename_i cs len tight nl
    split at h
    · rename_i l hh hl hhh
      rcases Bool.eq_false_or_eq_true (Nat.ble l hh && Nat.ble hh len) with hb | hb
      · rw [cond_of_true hb] at h
        rw [Bool.and_eq_true] at hb
        have h1 := Nat.le_of_ble_eq_true hb.1
        have h2 := Nat.le_of_ble_eq_true hb.2
        cases hv with
        | lst hcs hle htt hn hc hz =>
          rename_i vs cap ad
          -- the cells of the cut
          have fin : ∀ (m : Nat) (tight' : Bool), hh ≤ m → m ≤ cap → (tight' = true → m = hh) →
              VR E (.lst ((cs.drop (l * es)).take ((hh - l) * es)) (hh - l) tight' nl) (.slice (if m = l then ad else ad.map (·.add (l * es))) (hh - l) (m - l)) := by
            intro m tight' hm1 hm2 hm3
            refine .lst ((hcs.drop (l * es)).take ((hh - l) * es)) (by omega) (fun e => by rw [hm3 e]) ?_ ?_ ?_
            · rw [← hn]; split <;> cases ad <;> rfl
            · intro e
              have : ad = none := by
                split at e
                · exact e
                · cases ad with
                  | none => rfl
                  | some _ => cases e
              have := hc this
              omega
            · intro hne
              have hml : m ≠ l := by
                rintro rfl
                have : hh - m = 0 := by omega
                rw [this] at hne
                simp at hne
              have hvs : vs ≠ [] := by rintro rfl; simp at hne
              obtain ⟨b, base, e1, e2⟩ := hz hvs
              subst e1
              rw [if_neg hml]
              refine ⟨b, base + l * es, by simp [Addr.add_lit], fun i v hi2 => ?_⟩
              rw [List.getElem?_take] at hi2
              split at hi2
              · rw [List.getElem?_drop] at hi2
                rw [Nat.add_assoc]; exact e2 _ v hi2
              · cases hi2
          split at h
          · rename_i hm
            cases h
            exact ⟨ad, len, cap, l, hh, cap, rfl, run_sliceBounds isSlice (hlo hl) (hhi hhh) (.inl ⟨hnone hm, rfl⟩) h1 (by omega) (Nat.le_refl _) w,
              fin cap _ (by omega) (Nat.le_refl _) (fun e => by rw [Bool.and_eq_true] at e; have := Nat.eq_of_beq_eq_true e.2; rw [htt e.1]; exact this.symm)⟩
          · rename_i mm yy hm hy2
            split at h
            · rename_i mi hmi
              rcases Bool.eq_false_or_eq_true (mi.beq hh) with hq | hq
              · rw [cond_of_true hq] at h
                have := Nat.eq_of_beq_eq_true hq
                subst this
                cases h
                obtain ⟨k, e1, e2⟩ := maxb_ok hG ht hm hmi hy2
                exact ⟨ad, len, cap, l, mi, mi, rfl, run_sliceBounds isSlice (hlo hl) (hhi hhh) (.inr ⟨k, e1, e2⟩) h1 (Nat.le_refl _) (by omega) w, fin mi true (Nat.le_refl _) (by omega) (fun _ => rfl)⟩
              · rw [cond_of_false hq] at h; cases h
            · cases h
          · cases h
      · rw [cond_of_false hb] at h; cases h
    · cases h
  · rename_i r off len es' tight
    split at h
    · rename_i l hh hl hhh
      rcases Bool.eq_false_or_eq_true (Nat.ble l hh && Nat.ble hh len && es.beq es') with hb | hb
      · rw [cond_of_true hb] at h
        rw [Bool.and_eq_true, Bool.and_eq_true] at hb
        have h1 := Nat.le_of_ble_eq_true hb.1.1
        have h2 := Nat.le_of_ble_eq_true hb.1.2
        have hes := Nat.eq_of_beq_eq_true hb.2
        subst hes
        cases hv with
        | sl hl0 hle htt hc =>
          rename_i b base cap ad
          have fin : ∀ (m : Nat) (tight' : Bool), hh ≤ m → m ≤ cap → (tight' = true → m = hh) →
              VR E (.sl r (off + l * es) (hh - l) es tight') (.slice (if m = l then ad else ad.map (·.add (l * es))) (hh - l) (m - l)) := by
            intro m tight' hm1 hm2 hm3
            refine .sl hl0 (by omega) (fun e => by rw [hm3 e]) (fun hpos => ?_)
            obtain ⟨e1, e2⟩ := hc (by omega)
            subst e1
            rw [if_neg (by omega)]
            refine ⟨by simp [Addr.add_lit, Nat.add_assoc], ?_⟩
            have hmul : m * es ≤ cap * es := Nat.mul_le_mul_right _ hm2
            have hsub : (m - l) * es + l * es = m * es := by rw [← Nat.add_mul]; congr 1; omega
            omega
          split at h
          · rename_i hm
            cases h
            exact ⟨ad, len, cap, l, hh, cap, rfl, run_sliceBounds isSlice (hlo hl) (hhi hhh) (.inl ⟨hnone hm, rfl⟩) h1 (by omega) (Nat.le_refl _) w,
              fin cap _ (by omega) (Nat.le_refl _) (fun e => by rw [Bool.and_eq_true] at e; have := Nat.eq_of_beq_eq_true e.2; rw [htt e.1]; exact this.symm)⟩
          · rename_i mm yy hm hy2
            split at h
            · rename_i mi hmi
              rcases Bool.eq_false_or_eq_true (mi.beq hh) with hq | hq
              · rw [cond_of_true hq] at h
                have := Nat.eq_of_beq_eq_true hq
                subst this
                cases h
                obtain ⟨k, e1, e2⟩ := maxb_ok hG ht hm hmi hy2
                exact ⟨ad, len, cap, l, mi, mi, rfl, run_sliceBounds isSlice (hlo hl) (hhi hhh) (.inr ⟨k, e1, e2⟩) h1 (Nat.le_refl _) (by omega) w, fin mi true (Nat.le_refl _) (by omega) (fun _ => rfl)⟩
              · rw [cond_of_false hq] at h; cases h
            · cases h
          · cases h
      · rw [cond_of_false hb] at h; cases h
    · cases h
  · cases h

theorem sliceStr_ok (hG : GlobOk E G w) (ht : TR E t a) {es : Nat} {b : List Nat} {y : AV} {lo hi mx : Option Operand}
    (h : sliceA es (.str b) (optE (lo.map (evC G)) t) (optE (hi.map (evC G)) t) (optE (mx.map (evC G)) t) = some y) {v : Value} (hv : VR E (.str b) v) (w : World) :
    ∃ (bs : ByteArray) (l hh m : Nat), v = .string bs ∧ mx = none ∧ (Instr.sliceBounds false bs.size bs.size (lo.map a.eval) (hi.map a.eval) none).run P w = .ok (l, hh, m) w ∧
      VR E y (.string (bs.extract l hh)) := by
  cases hv with
  | str bs =>
    simp only [sliceA] at h
    split at h
    · rename_i l hh hl hhh hm
      rcases Bool.eq_false_or_eq_true (Nat.ble l hh && Nat.ble hh (bs.data.toList.map (·.toNat)).length) with hb | hb
      · rw [cond_of_true hb] at h
        rw [Bool.and_eq_true] at hb
        have h1 := Nat.le_of_ble_eq_true hb.1
        have h2 := Nat.le_of_ble_eq_true hb.2
        simp only [List.length_map, Array.length_toList] at h2
        cases h
        have hsz : bs.size = bs.data.size := rfl
        refine ⟨bs, l, hh, bs.size, rfl, ?_, run_sliceBounds false ?_ ?_ (.inl ⟨rfl, rfl⟩) h1 (by omega) (Nat.le_refl _) w, ?_⟩
        · cases mx with
          | none => rfl
          | some z => simp [optE] at hm
        · rcases bound_ok hG ht hl with ⟨rfl, h3⟩ | ⟨y, k, rfl, h3⟩
          · exact .inl ⟨rfl, h3⟩
          · exact .inr ⟨k, by simp [h3]⟩
        · rcases bound_ok hG ht hhh with ⟨rfl, h3⟩ | ⟨y, k, rfl, h3⟩
          · exact .inl ⟨rfl, by rw [h3, hsz, List.length_map, Array.length_toList]⟩
          · exact .inr ⟨k, by simp [h3]⟩
        · have e : ((bs.data.toList.map (·.toNat)).drop l).take (hh - l) = ((bs.extract l hh).data.toList.map (·.toNat)) := by
            rw [Lib.extract_data]
            simp [List.map_take, List.map_drop]
          rw [e]; exact .str _
      · rw [cond_of_false hb] at h; cases h
    · cases h
end
end Go.Am
end
