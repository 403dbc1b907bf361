import Derived.Test.YtlibahklbbachaaGreatDoorTx5
set_option autoImplicit false
set_option maxRecDepth 100000
set_option linter.unusedSimpArgs false
set_option linter.unusedVariables false
section
namespace Go.Am
/-! ## Slots that are kept -/
def keepTr (t : T) : List Nat → Tr AV → Tr AV
  | [], tr => tr
  | i :: l, tr => keepTr t l (tr.setP (getT (pathOf i) t) (pathOf i))
inductive Mode where
  | all
  | keep (l : List Nat)
  | pack (l : List Nat)
  /-- these slots, and the one older row (below so many rows more) that a slot leads to, and what they lead to -/
  | packR (l : List Nat) (p k : Nat)
def keepT (m : Mode) (t : T) : T :=
  match m with
  | .keep l | .pack l | .packR l _ _ => ⟨keepTr t l .nil, t.n, t.ds, t.rc⟩
  | .all => t
def nextC (m : Mode) (nb : Nat) (t : T) (s : St) : Option (T × St) :=
  match m with
  | .pack l => packC nb l t s
  | .packR l p k => packRC (nb + k) l p t s
  | m => some (keepT m t, s)
def getTr (p : List Bool) (tr : Tr AV) : AV := match tr.getP p with | some v => v | none => .undef
theorem keepTr_get (t : T) (i : Nat) : ∀ (l : List Nat) (tr : Tr AV), (getTr (pathOf i) tr = getT (pathOf i) t ∨ getTr (pathOf i) tr = .undef) →
    (getTr (pathOf i) (keepTr t l tr) = getT (pathOf i) t ∨ getTr (pathOf i) (keepTr t l tr) = .undef)
  | [], tr, h => h
  | j :: l, tr, h => by
    refine keepTr_get t i l _ ?_
    unfold getTr
    by_cases hj : j = i
    · subst hj; rw [Tr.getP_setP_same]; exact .inl rfl
    · rw [Tr.getP_setP_ne _ _ _ _ (fun e => hj (pathOf_inj e))]; exact h
theorem keep_TR {E : Env} {t : T} {a : Act} (h : TR E t a) (m : Mode) : TR E (keepT m t) a := by
  have key : ∀ l : List Nat, TR E ⟨keepTr t l .nil, t.n, t.ds, t.rc⟩ a := fun l => by
    refine ⟨h.size, fun i => ?_, h.ds⟩
    have : getT (pathOf i) (⟨keepTr t l .nil, t.n, t.ds, t.rc⟩ : T) = getTr (pathOf i) (keepTr t l .nil) := rfl
    rw [this]
    rcases keepTr_get t i l .nil (.inr (by unfold getTr; rw [Tr.getP_nil])) with h1 | h1
    · rw [h1]; exact h.val i
    · rw [h1]; exact .undef _
  cases m with
  | all => exact h
  | keep l => exact key l
  | pack l => exact key l
  | packR l _ _ => exact key l
/-! ## Running with such loops -/
abbrev Live := Nat → Mode
def loopD (m : Mode) (nb : Nat) (body : K) : Nat → K
  | 0 => fun _ _ => .fail
  | n + 1 => fun t s => match body t s with
    | .mk o t s => match o with
      | .normal => match nextC m nb t s with | some p => loopD m nb body n p.1 p.2 | none => .fail
      | o => .mk o t s
    | .fail => .fail
def baseB (D : Live) : Bool := match D 999 with | .pack _ => true | _ => false
def nbOf (b : Option Nat) (n : Nat) : Nat := match b with | some n0 => n0 | none => n
def baseO (D : Live) (n : Nat) : Option Nat := bif baseB D then some n else none
section
variable (P : Program) (G : Glob) (callF : CF) (D : Live) (b : Option Nat)
def execD (n : Nat) : Code → Nat → K
  | .skip, _ => doneC
  | .region _ ops draw, _ => regionC P G callF ops draw
  | .seq a b, i => thenC (execD n a i) (execD n b i)
  | .cond c a b, i => condC (evC G c) (execD n a i) (execD n b i)
  | .block id c, _ => blockC id (execD n c id)
  | .loop c, i => fun t s => loopD (D i) (nbOf b s.next) (execD n c i) n (keepT (D i) t) s
  | .exit id, _ => fun t s => .mk (.exit id) t s
  | .ret, _ => fun t s => .mk .ret t s
  | .label _, _ => doneC
  | _, _ => fun _ _ => .fail
end
section
variable (P : Program) (G : Glob) (callF : CF) (D : Live)
def bodyD (n : Nat) (fn : Option Func) : List AV → St → Res :=
  match fn with
  | some fn => match fn.body with
    | some body =>
      let rs := fn.results.toList
      fun args s => bif Nat.ble args.length fn.ntmps then finC P rs (callB P G callF n) (execD P G callF D (baseO D s.next) n body 0 ⟨setArgs args 0 .nil, fn.ntmps, [], .no⟩ s) else .fail
    | none => fun _ _ => .fail
  | none => fun _ _ => .fail
end
section
variable {P : Program} {G : Glob} {callF : CF} {D : Live}
theorem loopD_sound {x : K} {c : Code} (hx : Sound P G x c) {m : Mode} {E0 : Env} {s0 : St} {w0 : World} (h0 : Rel E0 s0 w0) (hG : GlobOk E0 G w0) : ∀ (n : Nat) {Q : Exit → Act → World → Prop} {t t' : T} {s s' : St} {o : Out} {a : Act} {w : World} {E : Env}, Step E0 s0 w0 E s w → TR E t a →
    loopD m s0.next x n t s = .mk o t' s' → (∀ e a' w' E', Step E0 s0 w0 E' s' w' → TR E' t' a' → OutR E' o e → Q e a' w') → Code.rounds P c Q n a w
  | 0, Q, t, t', s, s', o, a, w, E, _, _, hr, _ => by cases hr
  | n + 1, Q, t, t', s, s', o, a, w, E, h, ht, hr, hQ => by
    simp only [loopD] at hr
    rw [rounds_succ]
    split at hr
    · rename_i o1 t1 s1 e1
      refine hx.go h.rel (hG.step h0 h) ht e1 fun e a1 w1 E1 hs1 ht1 ho1 => ?_
      have hs2 := h.trans hs1
      split at hr
      · rw [ho1.normal]
        split at hr
        · rename_i p hp
          have key : ∃ E2, Step E0 s0 w0 E2 p.2 w1 ∧ TR E2 p.1 a1 := by
            cases m with
            | all => simp only [nextC, Option.some.injEq] at hp; subst hp; exact ⟨E1, hs2, keep_TR ht1 .all⟩
            | keep l => simp only [nextC, Option.some.injEq] at hp; subst hp; exact ⟨E1, hs2, keep_TR ht1 (.keep l)⟩
            | pack l =>
              obtain ⟨t2, s2⟩ := p
              obtain ⟨is, k1, k2, k3, k4⟩ := packC_ok ht1 hp
              subst k3
              exact ⟨_, Step.pack h0 hs2 k1 k2, k4⟩
            | packR l q k =>
              obtain ⟨t2, s2⟩ := p
              exact packRC_ok h0 hs2 (Nat.le_add_right _ _) ht1 hp
          obtain ⟨E2, hs3, ht3⟩ := key
          exact loopD_sound hx h0 hG n hs3 ht3 hr hQ
        · cases hr
      · rename_i hne
        cases hr
        exact then_ne (ho1.ne hne) (hQ e a1 w1 E1 hs2 ht1 ho1)
    · cases hr
theorem execD_ok (hm : P.follows .mixedOrders = true) (hc : CFok P G callF) (n : Nat) : ∀ (c : Code) (i : Nat), Sound P G (execD P G callF D none n c i) c
  | .skip, _ => exec_ok hm hc n .skip
  | .label l, _ => exec_ok hm hc n (.label l)
  | .region id ops draw, _ => exec_ok hm hc n (.region id ops draw)
  | .seq x y, i => then_sound (execD_ok hm hc n x i) (execD_ok hm hc n y i)
  | .cond c x y, i => by
    refine ⟨?_⟩
    intro Q t t' s s' o a w E h hG ht hr hQ
    have hx := execD_ok hm hc n x i
    have hy := execD_ok hm hc n y i
    have hev := evC_ok hG ht c
    simp only [execD, condC] at hr
    split at hr
    · rename_i u e
      rw [e] at hev
      generalize hv : a.eval c = v at hev
      cases hev
      refine wp_cond hv ?_
      cases u with
      | true => exact hx.go h hG ht hr hQ
      | false => exact hy.go h hG ht hr hQ
    · cases hr
  | .block id c, _ => block_sound (execD_ok hm hc n c id)
  | .loop c, i => by
    refine ⟨?_⟩
    intro Q t t' s s' o a w E h hG ht hr hQ
    exact wp_loop_rounds n (loopD_sound (execD_ok hm hc n c i) h hG n (.refl h) (keep_TR ht _) hr hQ)
  | .exit id, _ => exec_ok hm hc n (.exit id)
  | .ret, _ => exec_ok hm hc n .ret
  | .rangeFunc _ _ _ _, _ => by refine ⟨?_⟩; intro Q t t' s s' o a w E h hG ht hr hQ; cases hr
  | .scope _, _ => by refine ⟨?_⟩; intro Q t t' s s' o a w E h hG ht hr hQ; cases hr
  | .goto _, _ => by refine ⟨?_⟩; intro Q t t' s s' o a w E h hG ht hr hQ; cases hr
  | .refuse _, _ => by refine ⟨?_⟩; intro Q t t' s s' o a w E h hG ht hr hQ; cases hr
end
/-! ## What is packed since the function's beginning -/
section
variable {P : Program} {G : Glob} {callF : CF} {D : Live} {E0 : Env} {s0 : St} {w0 : World}
structure SoundB (P : Program) (E0 : Env) (s0 : St) (w0 : World) (k : K) (c : Code) : Prop where
  go : ∀ {Q : Exit → Act → World → Prop} {t t' : T} {s s' : St} {o : Out} {a : Act} {w : World} {E : Env}, Step E0 s0 w0 E s w → TR E t a → k t s = .mk o t' s' →
    (∀ e a' w' E', Step E0 s0 w0 E' s' w' → TR E' t' a' → OutR E' o e → Q e a' w') → c.wp P Q a w
theorem Sound.base {k : K} {c : Code} (h0 : Rel E0 s0 w0) (hG : GlobOk E0 G w0) (h : Sound P G k c) : SoundB P E0 s0 w0 k c := by
  refine ⟨?_⟩
  intro Q t t' s s' o a w E hs ht hr hQ
  exact h.go hs.rel (hG.step h0 hs) ht hr fun e a1 w1 E1 hs1 ht1 ho1 => hQ e a1 w1 E1 (hs.trans hs1) ht1 ho1
theorem then_soundB {x y : K} {c d : Code} (hx : SoundB P E0 s0 w0 x c) (hy : SoundB P E0 s0 w0 y d) : SoundB P E0 s0 w0 (thenC x y) (.seq c d) := by
  refine ⟨?_⟩
  intro Q t t' s s' o a w E h ht hr hQ
  unfold thenC at hr
  split at hr
  · rename_i o1 t1 s1 e1
    refine wp_seq (hx.go h ht e1 fun e a1 w1 E1 hs1 ht1 ho1 => ?_)
    split at hr
    · rw [ho1.normal]
      exact hy.go hs1 ht1 hr hQ
    · rename_i hne
      cases hr
      exact then_ne (ho1.ne hne) (hQ e a1 w1 E1 hs1 ht1 ho1)
  · cases hr
theorem loopD_soundB {x : K} {c : Code} (hx : SoundB P E0 s0 w0 x c) {m : Mode} (h0 : Rel E0 s0 w0) : ∀ (n : Nat) {Q : Exit → Act → World → Prop} {t t' : T} {s s' : St} {o : Out} {a : Act} {w : World} {E : Env}, Step E0 s0 w0 E s w → TR E t a →
    loopD m s0.next x n t s = .mk o t' s' → (∀ e a' w' E', Step E0 s0 w0 E' s' w' → TR E' t' a' → OutR E' o e → Q e a' w') → Code.rounds P c Q n a w
  | 0, Q, t, t', s, s', o, a, w, E, _, _, hr, _ => by cases hr
  | n + 1, Q, t, t', s, s', o, a, w, E, h, ht, hr, hQ => by
    simp only [loopD] at hr
    rw [rounds_succ]
    split at hr
    · rename_i o1 t1 s1 e1
      refine hx.go h ht e1 fun e a1 w1 E1 hs2 ht1 ho1 => ?_
      split at hr
      · rw [ho1.normal]
        split at hr
        · rename_i p hp
          have key : ∃ E2, Step E0 s0 w0 E2 p.2 w1 ∧ TR E2 p.1 a1 := by
            cases m with
            | all => simp only [nextC, Option.some.injEq] at hp; subst hp; exact ⟨E1, hs2, keep_TR ht1 .all⟩
            | keep l => simp only [nextC, Option.some.injEq] at hp; subst hp; exact ⟨E1, hs2, keep_TR ht1 (.keep l)⟩
            | pack l =>
              obtain ⟨t2, s2⟩ := p
              obtain ⟨is, k1, k2, k3, k4⟩ := packC_ok ht1 hp
              subst k3
              exact ⟨_, Step.pack h0 hs2 k1 k2, k4⟩
            | packR l q k =>
              obtain ⟨t2, s2⟩ := p
              exact packRC_ok h0 hs2 (Nat.le_add_right _ _) ht1 hp
          obtain ⟨E2, hs3, ht3⟩ := key
          exact loopD_soundB hx h0 n hs3 ht3 hr hQ
        · cases hr
      · rename_i hne
        cases hr
        exact then_ne (ho1.ne hne) (hQ e a1 w1 E1 hs2 ht1 ho1)
    · cases hr
theorem block_soundB {x : K} {c : Code} {id : Nat} (hx : SoundB P E0 s0 w0 x c) : SoundB P E0 s0 w0 (blockC id x) (.block id c) := by
  refine ⟨?_⟩
  intro Q t t' s s' o a w E h ht hr hQ
  unfold blockC at hr
  split at hr
  · rename_i o1 t1 s1 e1
    refine wp_block (hx.go h ht e1 fun e a1 w1 E1 hs1 ht1 ho1 => ?_)
    split at hr
    · rename_i i
      cases e with
      | exit j =>
        have hij : i = j := ho1
        subst hij
        rcases Bool.eq_false_or_eq_true (i.beq id) with hb | hb
        · have := Nat.eq_of_beq_eq_true hb
          subst this
          rw [cond_of_true hb] at hr
          cases hr
          simp only [Exit.inBlock, if_true]
          exact hQ .normal a1 w1 E1 hs1 ht1 trivial
        · have : i ≠ id := fun e => by subst e; simp at hb
          rw [cond_of_false hb] at hr
          cases hr
          simp only [Exit.inBlock, if_neg this]
          exact hQ (.exit i) a1 w1 E1 hs1 ht1 rfl
      | _ => cases ho1
    · rename_i hne
      cases hr
      have hq := hQ e a1 w1 E1 hs1 ht1 ho1
      cases e with
      | exit j => cases o <;> first | exact absurd rfl (hne _) | cases ho1
      | _ => exact hq
  · cases hr
theorem execD_okB (hm : P.follows .mixedOrders = true) (hc : CFok P G callF) (h0 : Rel E0 s0 w0) (hG : GlobOk E0 G w0) (n : Nat) : ∀ (c : Code) (i : Nat), SoundB P E0 s0 w0 (execD P G callF D (some s0.next) n c i) c
  | .skip, _ => (exec_ok hm hc n .skip).base h0 hG
  | .label l, _ => (exec_ok hm hc n (.label l)).base h0 hG
  | .region id ops draw, _ => (exec_ok hm hc n (.region id ops draw)).base h0 hG
  | .seq x y, i => then_soundB (execD_okB hm hc h0 hG n x i) (execD_okB hm hc h0 hG n y i)
  | .cond c x y, i => by
    refine ⟨?_⟩
    intro Q t t' s s' o a w E h ht hr hQ
    have hx := execD_okB hm hc h0 hG n x i
    have hy := execD_okB hm hc h0 hG n y i
    have hev := evC_ok (hG.step h0 h) ht c
    simp only [execD, condC] at hr
    split at hr
    · rename_i u e
      rw [e] at hev
      generalize hv : a.eval c = v at hev
      cases hev
      refine wp_cond hv ?_
      cases u with
      | true => exact hx.go h ht hr hQ
      | false => exact hy.go h ht hr hQ
    · cases hr
  | .block id c, _ => block_soundB (execD_okB hm hc h0 hG n c id)
  | .loop c, i => by
    refine ⟨?_⟩
    intro Q t t' s s' o a w E h ht hr hQ
    exact wp_loop_rounds n (loopD_soundB (execD_okB hm hc h0 hG n c i) h0 n h (keep_TR ht _) hr hQ)
  | .exit id, _ => (exec_ok hm hc n (.exit id)).base h0 hG
  | .ret, _ => (exec_ok hm hc n .ret).base h0 hG
  | .rangeFunc _ _ _ _, _ => by refine ⟨?_⟩; intro Q t t' s s' o a w E h ht hr hQ; cases hr
  | .scope _, _ => by refine ⟨?_⟩; intro Q t t' s s' o a w E h ht hr hQ; cases hr
  | .goto _, _ => by refine ⟨?_⟩; intro Q t t' s s' o a w E h ht hr hQ; cases hr
  | .refuse _, _ => by refine ⟨?_⟩; intro Q t t' s s' o a w E h ht hr hQ; cases hr
theorem execD_any (hm : P.follows .mixedOrders = true) (hc : CFok P G callF) {E : Env} {s : St} {w : World} (h : Rel E s w) (hG : GlobOk E G w) (n : Nat) (c : Code) (i : Nat) : SoundB P E s w (execD P G callF D (baseO D s.next) n c i) c := by
  unfold baseO
  cases baseB D with
  | true => exact execD_okB hm hc h hG n c i
  | false => exact (execD_ok hm hc n c i).base h hG
end
theorem bodyD_ok {P : Program} {G : Glob} {callF : CF} {D : Live} (hm : P.follows .mixedOrders = true) (hn : NoNG P) (hc : CFok P G callF) (n : Nat) (f : FuncId) (args : List AV) (s : St) (E : Env) (w : World) (vs : List Value) (h : Rel E s w) (hG : GlobOk E G w) (ha : VRL E args vs) :
    ResOk P E s w f vs (bodyD P G callF D n P.funcs[f]? args s) := by
  generalize hr : bodyD P G callF D n P.funcs[f]? args s = r
  by_cases hfail : r = .fail
  · subst hfail; trivial
  unfold bodyD at hr
  cases hfn : P.funcs[f]? with
  | none => rw [hfn] at hr; exact absurd hr.symm hfail
  | some fn =>
    cases hb : fn.body with
    | none => simp only [hfn, hb] at hr; exact absurd hr.symm hfail
    | some c =>
      simp only [hfn, hb] at hr
      rcases Bool.eq_false_or_eq_true (Nat.ble args.length fn.ntmps) with hl | hl
      rotate_left
      · rw [cond_of_false hl] at hr; exact absurd hr.symm hfail
      rw [cond_of_true hl] at hr
      have hle := Nat.le_of_ble_eq_true hl
      have hent : Enters P f := ⟨fn, hfn, by rw [hb]; rfl, hn f fn hfn⟩
      have main : ∀ (R : Ending → World → Prop), (∀ x s', r = .ret x s' → ∀ v w' E', Step E s w E' s' w' → VR E' x v → R (.returned v) w') →
          (∀ x s', r = .panic x s' → ∀ v w' E', Step E s w E' s' w' → VR E' x v → R (.panicked [{ v := v, recovered := false }]) w') → Calls P f ⟨vs⟩ w R := by
        intro R h1 h2
        refine calls_of_wp_defers hfn hb ?_
        unfold finC at hr
        split at hr
        · rename_i o t s1 e1
          refine (execD_any hm hc h hG n c 0).go (.refl h) (enter_TR ha hle) e1 fun e a' w' E' hs hta ho => ?_
          split at hr
          · rw [ho.normal]
            exact endC_ok hm hn hc (o := .ret) (u := .returning) hs (hG.step h hs) hta rfl hr hfail h1 h2
          · have : e = .ret := by cases e <;> first | rfl | cases ho
            subst this
            exact endC_ok hm hn hc (o := .ret) (u := .returning) hs (hG.step h hs) hta rfl hr hfail h1 h2
          · cases e with
            | panic ch =>
              obtain ⟨v, hv, hvr⟩ := ho
              subst hv
              rename_i x2
              exact endC_ok hm hn hc (o := .panic x2) (u := .panicking [{ v := v, recovered := false }]) hs (hG.step h hs) hta ⟨v, rfl, hvr⟩ hr hfail h1 h2
            | _ => cases ho
          · exact absurd hr.symm hfail
        · exact absurd hr.symm hfail
      cases r with
      | fail => trivial
      | ret x s' =>
        refine .inl ⟨hent, main _ (fun x2 s2 e v w' E' hs hv => ?_) (fun x2 s2 e => by cases e)⟩
        cases e
        exact ⟨v, E', rfl, hs, hv⟩
      | panic x s' =>
        refine ⟨hent, main _ (fun x2 s2 e => by cases e) (fun x2 s2 e v w' E' hs hv => ?_)⟩
        cases e
        exact ⟨v, E', rfl, hs, hv⟩
/-! ## The same with a continuation -/
section
variable {β : Type}
abbrev KA (β : Type) := Out → T → St → Option β
abbrev CK (β : Type) := FuncId → List AV → St → (Res → Option β) → Option β
def Le (a b : Option β) : Prop := ∀ x, a = some x → b = some x
theorem Le.refl (a : Option β) : Le a a := fun _ h => h
theorem Le.none (b : Option β) : Le .none b := fun _ h => by cases h
def goK (k : KA β) (e : Ex) : Option β := match e with | .mk o t s => k o t s | .fail => none
abbrev byB {α : Type} (u : Bool) (a b : α) : α := match u with | true => a | false => b
def decideK : List Nat → (T → St → Option β) → T → St → Option β
  | [], k => k
  | d :: l, k => let p := pathOf d; fun t s => match t.tr.getP p with
    | some (.bool u) => byB u (decideK l k { t with tr := t.tr.setP (.bool true) p } s) (decideK l k { t with tr := t.tr.setP (.bool false) p } s)
    | _ => decideK l k t s
theorem Tr.setP_self {α : Type} {x : α} : ∀ {p : List Bool} {t : Tr α}, t.getP p = some x → t.setP x p = t
  | [], .nil, h => by cases h
  | [], .node v l r, h => by simp only [Tr.getP] at h; subst h; rfl
  | b :: p, .nil, h => by cases h
  | true :: p, .node v l r, h => by simp only [Tr.getP, cond_true] at h; simp only [Tr.setP, cond_true]; rw [Tr.setP_self h]
  | false :: p, .node v l r, h => by simp only [Tr.getP, cond_false] at h; simp only [Tr.setP, cond_false]; rw [Tr.setP_self h]
theorem decideK_eq (k : T → St → Option β) : ∀ (l : List Nat) (t : T) (s : St), decideK l k t s = k t s
  | [], _, _ => rfl
  | d :: l, t, s => by
    simp only [decideK]
    split
    · rename_i u e
      cases u
      · show decideK l k _ s = _
        rw [decideK_eq k l, Tr.setP_self e]
      · show decideK l k _ s = _
        rw [decideK_eq k l, Tr.setP_self e]
    · exact decideK_eq k l t s
def slotsOf (ops : Array Oper) (o : Oper) : List Nat :=
  (match o.guard with
  | some (j, _) => match (ops[j]?).bind (·.dst) with | some d => [d] | none => []
  | none => []) ++ (match o.op with
  | .pick (.tmp i) _ _ => [i]
  | .unOp _ _ (.tmp i) => [i]
  | .binOp _ _ (.tmp i) (.tmp j) _ => [i, j]
  | .binOp _ _ (.tmp i) _ _ => [i]
  | .binOp _ _ _ (.tmp j) _ => [j]
  | _ => [])
def effEx (put : AV → T → T) (chk : T → St → Bool) (fl : List Nat) (t : T) : Nx → Ex
  | .val v s => goOn chk (put v t) s
  | .skip s => goOn chk (put (.tup []) t) s
  | .dfr g args s => goOn chk (put (.tup []) { t with ds := (g, args) :: t.ds }) s
  | .panic v s => .mk (.panic v) (maskT fl t) s
  | .fail => .fail
def plainEx (put : AV → T → T) (t : T) : Nx → Ex
  | .val v s => .mk .normal (put v t) s
  | _ => .fail
def optK {γ : Type} (k : γ → Option β) (x : Option γ) : Option β := match x with | some v => k v | none => none
def resK (k : Nx → Option β) (r : Res) : Option β := match r with | .ret v s => k (.val v s) | .panic v s => k (.panic v s) | .fail => none
def nxK (k : Nx → Option β) (n : Nx) : Option β := match n with | .fail => none | nx => k nx
def asPair : Option (Option AV) → Option (Bool × Int × Int)
  | some (some (.agg [.int .i64 a, .int .i64 b])) => some (true, a, b)
  | some none => some (false, 0, 0)
  | _ => none
def pairZ : Option AV → Bool
  | some (.agg [.int .i64 (.ofNat 0), .int .i64 (.ofNat 0)]) => true
  | _ => false
section
variable (P : Program) (G : Glob) (callF : CF) (ck : CK β)
/-! What is read that is not known: its kind is. -/
def opt1 (kd : IntKind) (f : Int → Option β) : Option AV → Option β
  | some (.int j n) => bif kindEq j kd then f n else none
  | _ => none
def opt2 (f : Int → Int → Option β) : Option (List AV) → Option β
  | some [.int .i64 a, .int .i64 b] => f a b
  | _ => none
def optLst (f : List AV → Nat → Bool → Bool → Option β) : Option AV → Option β
  | some (.lst c n t nl) => f c n t nl
  | _ => none
def ifK (c : Bool) (x : Option β) : Option β := match c with | true => x | false => none
def twoT (P : Program) (ty : TypeId) : Bool :=
  match P.underlying ty with
  | some (.struct ⟨[a, b]⟩) => match P.underlying a.type, P.underlying b.type with
    | some (.int .i64), some (.int .i64) => true
    | _, _ => false
  | _ => false
def optS (q : Nat) (k : Nat → Nat → Nat → Bool → Option β) : Option AV → Option β
  | some (.sl r off len es tight) => bif r.beq q then k off len es tight else none
  | _ => none
def loadS (orc : Option (Nat × Nat)) (k : Nx → Option β) (r off : Nat) (s : St) : Option β :=
  match orc with
  | some (r1, q) => bif r.beq r1 then optS q (fun o n es t => k (.val (.sl q o n es t) s)) (cell1 (.ptr r off) s) else optK (fun v => k (.val v s)) (cell1 (.ptr r off) s)
  | none => optK (fun v => k (.val v s)) (cell1 (.ptr r off) s)
def optB (f : Bool → Option β) : Option AV → Option β
  | some (.bool b) => f b
  | _ => none
def loadK (P : Program) (orc : Option (Nat × Nat)) (ty : TypeId) (e : T → AV) (k : Nx → Option β) : T → St → Option β :=
  match shapeT P ty with
  | some (some n) => bif twoT P ty && n.beq 2 then fun t s => opt2 (fun a b => k (.val (.agg [.int .i64 a, .int .i64 b]) s)) (cellsAt 2 (e t) s)
    else fun t s => optK (fun v => k (.val (.agg v) s)) (cellsAt n (e t) s)
  | some none => match P.underlying ty with
    | some (.int kd) => fun t s => opt1 kd (fun n => k (.val (.int kd n) s)) (cell1 (e t) s)
    | some .bool => fun t s => optB (fun b => k (.val (.bool b) s)) (cell1 (e t) s)
    | some (.slice _) => fun t s => match e t with
      | .ptrL cs off => optLst (fun c n t nl => k (.val (.lst c n t nl) s)) (cs[off]?)
      | .ptr r off => loadS orc k r off s
      | a => optK (fun v => k (.val v s)) (cell1 a s)
    | _ => fun t s => optK (fun v => k (.val v s)) (cell1 (e t) s)
  | none => fun _ _ => none
def appendTK (s : St) (es r off len : Nat) (new : List AV) (n : Nat) (o q : Row) (k : Nx → Option β) : Option β :=
  optK (fun old =>
    let e := o.pos + off + len * es
    let f := bif Nat.ble q.ext e then q.fep else q.fep + 1
    let x := e + n * es
    let ext := bif Nat.ble q.ext x then x else q.ext
    let s1 := bif o.root.beq r then s.set r (.row { o with solo := false, ep := (bif o.solo then q.fep else o.ep), fep := f, ext := ext })
      else (s.set o.root (.row { q with fep := f, ext := ext }))
    k (.val (.sl s1.next 0 (len + n) es false) (s1.push (.row { vals := old ++ new, root := o.root, pos := o.pos + off, ep := f, fep := 0, ext := 0, solo := false, ty := o.ty }))))
    (cutN (len * es) off o.vals)
def rowAtK (s : St) (r : Nat) (k : Row → Option β) : Option β := match s.get r with | some (.row o) => ifK (valid s o) (k o) | _ => none
def appendAK (ty : TypeId) (es : Nat) (a : AV) (new : List AV) (n : Nat) (s : St) (k : Nx → Option β) : Option β :=
  match a with
  | .lst cs len tight nl => byB (n.beq 0) (k (.val (.lst cs len tight nl) s))
    (ifK (tight && cs.length.beq (len * es)) (k (.val (.sl s.next 0 (len + n) es false) (pushRow s ty (cs ++ new)))))
  | .sl r off len es' tight => byB (n.beq 0) (k (.val (.sl r off len es' tight) s))
    (ifK (es.beq es') (rowAtK s r fun o => ifK (o.ty.beq ty) (match tight with
      | true => optK (fun old => k (.val (.sl s.next 0 (len + n) es false) (pushRow s ty (old ++ new)))) (cutN (len * es) off o.vals)
      | false => match s.get o.root with
        | some (.row q) => appendTK s es r off len new n o q k
        | _ => none)))
  | _ => none
def appendK (P : Program) (ty tx : TypeId) (a x : T → AV) (k : Nx → Option β) : T → St → Option β :=
  bif seqT P tx then
  match sliceElemT P ty with
  | some e => match sizeT P e, bytesT P e, zeroT P e with
    | some n, some b, some z => bif Nat.ble b 65536 && n.beq z.cells.length then
        fun t s => match lenA (x t), lenA (a t) with
        | some m, some j => ifK (Nat.ble (j + m) 1073741824) (optK (fun new => ifK (new.all AV.single) (appendAK e n (a t) new m s k)) (elemsN n m (x t) s))
        | _, _ => none
      else fun _ _ => none
    | _, _, _ => fun _ _ => none
  | none => fun _ _ => none
  else fun _ _ => none
def optNat {γ : Type} (k : Nat → Option γ) (z : Int) : Option γ := match z with | .ofNat a => k a | .negSucc _ => none
def optI (k : Nat → Option β) (a : AV) : Option β := match a with | .int _ z => optNat k z | _ => none
def indexAddrK (P : Program) (ty : TypeId) (x i : T → AV) (k : Nx → Option β) : T → St → Option β :=
  match P.underlying ty with
  | some (.slice e) => match sizeT P e with
    | some n => fun t s => match x t with
      | .sl r off len es _ => optI (fun i => ifK (Nat.blt i len && n.beq es) (k (.val (.ptr r (off + i * n)) s))) (i t)
      | .lst cs len _ _ => optI (fun i => ifK (Nat.blt i len && nonNil cs) (k (.val (.ptrL cs (i * n)) s))) (i t)
      | _ => none
    | none => fun _ _ => none
  | some (.array len e) => match sizeT P e with
    | some n => fun t s => match x t with
      | .ptr r off => optI (fun i => ifK (Nat.blt i len) (k (.val (.ptr r (off + i * n)) s))) (i t)
      | .ptrL cs off => optI (fun i => ifK (Nat.blt i len) (k (.val (.ptrL cs (off + i * n)) s))) (i t)
      | _ => none
    | none => fun _ _ => none
  | _ => fun t s => nxK k (indexAddrC P ty x i t s)
def storeK (n : Option Nat) (a x : T → AV) (k : Nx → Option β) : T → St → Option β :=
  match n with
  | some n => fun t s => match a t with
    | .ptr r off => ifK (n.beq (x t).cells.length && (x t).cells.all AV.single) (match s.get r with
      | some (.row o) => ifK (valid s o) (bif o.solo then optK (fun vals => k (.skip (s.set r (.row { o with vals := vals })))) (overwrite o.vals off (x t).cells) else nxK k (skipO (storeCellsA s r off (x t).cells)))
      | _ => none)
    | _ => none
  | none => fun _ _ => none
def unsafeStrK (P : Program) (pt : TypeId) (x n : T → AV) (k : Nx → Option β) : T → St → Option β :=
  match P.underlying pt with
  | some (.pointer e) => match sizeT P e with
    | some 1 => fun t s => match n t, x t with
      | .int .i64 (.ofNat 0), .nilp => k (.val (.str []) s)
      | .int .i64 (.ofNat 0), .ptr _ _ => k (.val (.str []) s)
      | .int .i64 (.ofNat (m + 1)), .ptr r off => match rowAt s r with
        | some o => ifK (o.ty.beq e && Nat.ble (m + 1) 9223372036854775807) (optK (fun cs => optK (fun l => match retire s o with | some s' => k (.val (.str l) s') | none => none) (bytesOf cs)) (cutN (m + 1) off o.vals))
        | none => none
      | _, _ => none
    | _ => fun _ _ => none
  | _ => fun _ _ => none
def makeSliceK (P : Program) (ty : TypeId) (l c : T → AV) (k : Nx → Option β) : T → St → Option β :=
  match sliceElemT P ty with
  | some e => match zeroT P e, sizeT P e, bytesT P e with
    | some z, some n, some b => bif n.beq z.cells.length && Nat.ble b 65536 then
        fun t s => optK (fun l => optK (fun c => ifK (Nat.ble l c && Nat.ble c 1073741824) (k (.val (.sl s.next 0 l n (l.beq c)) (pushRow s e (replic l z.cells))))) (natOf (c t))) (natOf (l t))
      else fun _ _ => none
    | _, _, _ => fun _ _ => none
  | none => fun _ _ => none
def sliceK (P : Program) (ty : TypeId) (x : T → AV) (lo hi mx : Option (T → AV)) (k : Nx → Option β) : T → St → Option β :=
  match P.underlying ty, mx with
  | some (.slice e), none => match sizeT P e with
    | some n => fun t s => match x t with
      | .sl r off len es tight => optK (fun l => optK (fun h => ifK (Nat.ble l h && Nat.ble h len && n.beq es) (k (.val (.sl r (off + l * n) (h - l) n (tight && h.beq len)) s))) (bound len (optE hi t))) (bound 0 (optE lo t))
      | .lst cs len tight nl => optK (fun l => optK (fun h => ifK (Nat.ble l h && Nat.ble h len) (k (.val (.lst ((cs.drop (l * n)).take ((h - l) * n)) (h - l) (tight && h.beq len) nl) s))) (bound len (optE hi t))) (bound 0 (optE lo t))
      | _ => nxK k (sliceC P ty x lo hi none t s)
    | none => fun t s => nxK k (sliceC P ty x lo hi none t s)
  | some .string, none => fun t s => match x t with
    | .str b => optK (fun l => optK (fun h => ifK (Nat.ble l h && Nat.ble h b.length) (k (.val (.str ((b.drop l).take (h - l))) s))) (bound b.length (optE hi t))) (bound 0 (optE lo t))
    | _ => nxK k (sliceC P ty x lo hi none t s)
  | _, mx => fun t s => nxK k (sliceC P ty x lo hi mx t s)
def copyK (P : Program) (ty : TypeId) (d x : T → AV) (k : Nx → Option β) : T → St → Option β :=
  match sliceElemT P ty with
  | some e => match sizeT P e with
    | some n => fun t s => match d t with
      | .sl r off dl es _ => optK (fun m => ifK (n.beq es) (byB ((Nat.min m dl).beq 0) (k (.val (.int .i64 0) s)) (optK (fun new => ifK (new.all AV.single) (match s.get r with
          | some (.row o) => ifK (valid s o) (bif o.solo then optK (fun vals => k (.val (.int .i64 (Nat.min m dl : Nat)) (s.set r (.row { o with vals := vals })))) (overwrite o.vals off new) else nxK k (copyC P ty d x t s))
          | _ => none)) (elemsN n (Nat.min m dl) (x t) s)))) (lenA (x t))
      | _ => none
    | none => fun _ _ => none
  | none => fun _ _ => none
def indexK (P : Program) (ty : TypeId) (x i : T → AV) (k : Nx → Option β) : T → St → Option β :=
  match P.underlying ty with
  | some .string => fun t s => match x t with
    | .str l => optI (fun i => optK (fun (b : Nat) => k (.val (.int .u8 (.ofNat b)) s)) (l[i]?)) (i t)
    | _ => none
  | _ => fun t s => nxK k (indexC P ty x i t s)
def findK (d : KK) (key : AV) (k : Option AV → Option β) : List (AV × AV) → Option β
  | [] => k none
  | (x, v) :: l => match eqKey d key x with | some b => byB b (k (some v)) (findK d key k l) | none => none
def convK (P : Program) (G : Glob) (o : Oper) (src dst : TypeId) (x : T → AV) (k : Nx → Option β) : T → St → Option β :=
  match P.underlying src, P.underlying dst with
  | some (.slice e), some .string => match P.underlying e with
    | some (.int .u8) => fun t s => match x t with
      | .str _ => none
      | a => optK (fun n => optK (fun cs => optK (fun l => k (.val (.str l) s)) (bytesOf cs)) (elemsN 1 n a s)) (lenA a)
    | _ => fun _ _ => none
  | _, _ => fun t s => nxK k (convC P G o src dst x t s)
def opK (o : Oper) (k : Nx → Option β) : T → St → Option β :=
  match o.op with
  | .load ty x => loadK P G.orc ty (evC G x) k
  | .indexAddr ty x i => indexAddrK P ty (evC G x) (evC G i) k
  | .store ty a x => storeK (sizeT P ty) (evC G a) (evC G x) k
  | .call { callee := .value f, args := args, .. } => match f with
    | .func g => fun t s => ck g (evL G args.toList t) s (resK k)
    | _ => let e := evC G f; fun t s => match e t with
      | .fn (.func g) first captured => ck g (first ++ evL G args.toList t ++ captured) s (resK k)
      | _ => none
  | .call { callee := .builtin .append, args := args, argTypes := ts } => match args.toList, ts.toList with
    | [a, x], [ty, tx] => appendK P ty tx (evC G a) (evC G x) k
    | _, _ => fun _ _ => none
  | .call { callee := .builtin .unsafeString, args := args, argTypes := ts } => match args.toList, ts.toList with
    | [x, n], [pt, _] => unsafeStrK P pt (evC G x) (evC G n) k
    | _, _ => fun _ _ => none
  | .call { callee := .builtin .copy, args := args, argTypes := ts } => match args.toList, ts.toList with
    | [d, x], [ty, _] => copyK P ty (evC G d) (evC G x) k
    | _, _ => fun _ _ => none
  | .slice ty x lo hi mx => sliceK P ty (evC G x) (lo.map (evC G)) (hi.map (evC G)) (mx.map (evC G)) k
  | .index ty x i => indexK P ty (evC G x) (evC G i) k
  | .convert src dst x => convK P G o src dst (evC G x) k
  | .makeSlice ty l c => makeSliceK P ty (evC G l) (evC G c) k
  | .mapUpdate ty m key x => match P.underlying ty with
    | some (.map kt _) => match keyT P kt with
      | some d => let m := evC G m; let key := evC G key; let x := evC G x; fun t s => bif isKey d (key t) then match m t with
        | .mp (some r) => match s.get r with
          | some (.mapo es) => optK (fun es => k (.skip (s.set r (.mapo es)))) (putA d (key t) (x t) es)
          | _ => none
        | _ => none
        else none
      | none => fun _ _ => none
    | _ => fun _ _ => none
  | .lookup ty m key true => match P.underlying ty with
    | some (.map kt e) => match zeroT P e, keyT P kt with
      | some z, some d => bif pairZ (some z) then let m := evC G m; let key := evC G key; fun t s => bif isKey d (key t) then match mapEs (m t) s with
          | some es => optK (fun p => k (.val (.tup [.agg [.int .i64 p.2.1, .int .i64 p.2.2], .bool p.1]) s)) (asPair (findA d (key t) es))
          | none => none
          else none
        else let m := evC G m; let key := evC G key; fun t s => bif isKey d (key t) then match mapEs (m t) s with
          | some es => findK d (key t) (fun v => match v with | some v => k (.val (.tup [v, .bool true]) s) | none => k (.val (.tup [z, .bool false]) s)) es
          | none => none
          else none
      | _, _ => fun _ _ => none
    | _ => fun _ _ => none
  | _ => fun t s => nxK k (opC P G callF o t s)
def effK (put : AV → T → T) (chk : T → St → Bool) (fl : List Nat) (t : T) (k : KA β) : Nx → Option β
  | .val v s => ifK (chk (put v t) s) (k .normal (put v t) s)
  | .skip s => ifK (chk (put (.tup []) t) s) (k .normal (put (.tup []) t) s)
  | .dfr g args s => ifK (chk (put (.tup []) { t with ds := (g, args) :: t.ds }) s) (k .normal (put (.tup []) { t with ds := (g, args) :: t.ds }) s)
  | .panic v s => k (.panic v) (maskT fl t) s
  | .fail => none
def itemK (ops : Array Oper) (it : Item) (k : KA β) : T → St → Option β :=
  let put := putC it.p.dst
  let go : T → St → Option β := bif it.p.kd.isEff then let chk := againsC P G callF ops it.chk; fun t s => opK P G callF ck it.p.o (effK put chk it.fl t k) t s
    else fun t s => opK P G callF ck it.p.o (fun nx => goK k (plainEx put t nx)) t s
  match it.p.o.guard with
  | none => go
  | some g => let gd := guardC ops (some g); fun t s => match gd t with
    | some b => bif b then go t s else k .normal (put (.tup []) t) s
    | none => none
def itemsK (ops : Array Oper) : List Item → KA β → T → St → Option β
  | [], k => fun t s => k .normal t s
  | it :: l, k => decideK (slotsOf ops it.p.o) (itemK P G callF ck ops it fun o t s => match o with | .normal => itemsK ops l k t s | o => k o t s)
def regionK (ops : Array Oper) (draw : Bool) : KA β → T → St → Option β :=
  bif draw then match planOf P ops with | some l => itemsK P G callF ck ops l | none => fun _ _ _ => none
  else itemsK P G callF ck ops (plainItems ops)
end
def keepK (nb : Nat) (s : St) : List Nat → Nat → List AV → (List KItem → List AV → Option β) → Option β
  | _, _, [], k => k [] []
  | us, j, v :: l, k => match v with
    | .sl r off len es tight => byB (Nat.blt r nb) (keepK nb s us j l fun is vs => k is (.sl r off len es tight :: vs))
        (match s.get r with
        | some (.row o) => ifK (valid s o) (ifK (Nat.ble nb o.root && !hasN o.root us) (optK (fun cs => ifK (nonNil cs && AV.plains cs)
            (keepK nb s (o.root :: us) (j + 1) l fun is vs => k (⟨r, off, o, cs⟩ :: is) (.sl (nb + j) 0 len es false :: vs))) (cutX len es off o.vals)))
        | _ => none)
    | v => ifK (AV.under nb v) (keepK nb s us j l fun is vs => k is (v :: vs))
def packK (nb : Nat) (ls : List Nat) (t : T) (s : St) (k : T → St → Option β) : Option β :=
  match t.ds with
  | [] => keepK nb s [] 0 (valsT t ls) fun is vs => ifK (lowOkB s nb nb) (k ⟨slotsT ls vs .nil, t.n, [], t.rc⟩ (packS s nb is))
  | _ => none
def packRK (nb : Nat) (ls : List Nat) (p : Nat) (t : T) (s : St) (k : T → St → Option β) : Option β :=
  match t.ds with
  | [] => match getT (pathOf p) t with
    | .ptr r _ => match s.get r with
      | some (.row o) => ifK (Nat.blt r nb && (o.solo && lowOkR s nb r nb)) (keepK nb s [] 0 (valsT t ls ++ o.vals) fun is vs => k ⟨slotsT ls vs .nil, t.n, [], t.rc⟩ (rerowS s nb r o is (vs.drop ls.length)))
      | _ => none
    | _ => none
  | _ => none
def loopK (m : Mode) (nb : Nat) (body : KA β → T → St → Option β) (k : KA β) : Nat → T → St → Option β
  | 0 => fun _ _ => none
  | n + 1 => fun t s => body (fun o t s => match o with
    | .normal => match m with
      | .pack l => packK nb l t s (loopK (.pack l) nb body k n)
      | .packR l p q => packRK (nb + q) l p t s (loopK (.packR l p q) nb body k n)
      | m => loopK m nb body k n (keepT m t) s
    | o => k o t s) t s
section
variable (P : Program) (G : Glob) (callF : CF) (ck : CK β) (D : Live) (b : Option Nat)
def execK (n : Nat) : Code → Nat → KA β → T → St → Option β
  | .skip, _, k => fun t s => k .normal t s
  | .region _ ops draw, _, k => regionK P G callF ck ops draw k
  | .seq a b, i, k => execK n a i fun o t s => match o with | .normal => execK n b i k t s | o => k o t s
  | .cond c a b, i, k => decideK (match c with | .tmp d => [d] | _ => []) fun t s => match evC G c t with | .bool u => bif u then execK n a i k t s else execK n b i k t s | _ => none
  | .block id c, _, k => execK n c id fun o t s => match o with | .exit j => bif j.beq id then k .normal t s else k (.exit j) t s | o => k o t s
  | .loop c, i, k => fun t s => loopK (D i) (nbOf b s.next) (execK n c i) k n (keepT (D i) t) s
  | .exit id, _, k => fun t s => k (.exit id) t s
  | .ret, _, k => fun t s => k .ret t s
  | .label _, _, k => fun t s => k .normal t s
  | _, _, _ => fun _ _ => none
end
section
variable (P : Program) (G : Glob) (callF : CF) (ck : CK β) (D : Live)
def bodyJ (kr : Res → Option β) (n : Nat) (fn : Option Func) : List AV → St → Option β :=
  match fn with
  | some fn => match fn.body with
    | some body => fun args s => bif Nat.ble args.length fn.ntmps then
        execK P G callF ck D (baseO D s.next) n body 0 (fun o t s => kr (finC P fn.results.toList (callB P G callF n) (.mk o t s))) ⟨setArgs args 0 .nil, fn.ntmps, [], .no⟩ s
      else none
    | none => fun _ _ => none
  | none => fun _ _ => none
end
def noLive : Live := fun _ => .all
def callK (P : Program) (G : Glob) (X : Known) (loops : Nat) : Nat → CK β
  | 0 => fun _ _ _ _ => none
  | n + 1 => fun f args s kr => match X f with
    | some h => kr (h args s)
    | none => bodyJ P G (callN P G X loops n) (callK P G X loops n) noLive kr loops P.funcs[f]? args s
def bodyK (P : Program) (G : Glob) (X : Known) (loops n : Nat) (D : Live) (kr : Res → Option β) (m : Nat) (fn : Option Func) : List AV → St → Option β :=
  bodyJ P G (callN P G X loops n) (callK P G X loops n) D kr m fn
section
variable {P : Program} {G : Glob} {callF : CF} {ck : CK β} {D : Live} {ops : Array Oper} {n : Nat}
theorem Le.cond {u : Bool} {a b c d : Option β} (h1 : Le a c) (h2 : Le b d) : Le (bif u then a else b) (bif u then c else d) := by cases u <;> assumption
theorem Le.ifK {c : Bool} {x : Option β} {y : Option β} (h : c = true → Le x y) : Le (ifK c x) y := by
  cases c with
  | false => exact .none _
  | true => exact h rfl
theorem loadK_le {orc : Option (Nat × Nat)} {ty : TypeId} {e : T → AV} {k k' : Nx → Option β} (hk : ∀ nx, Le (k nx) (k' nx)) (t : T) (s : St) : Le (loadK P orc ty e k t s) (nxK k' (loadC (shapeT P ty) e t s)) := by
  suffices key : ∀ F, loadK P orc ty e k = F → Le (F t s) (nxK k' (loadC (shapeT P ty) e t s)) from key _ rfl
  intro F hF
  unfold loadK at hF
  unfold loadC
  have one : Le (optK (fun v => k (.val v s)) (cell1 (e t) s)) (nxK k' (valO (cell1 (e t) s) s)) := by
    cases cell1 (e t) s with
    | none => exact .none _
    | some v => exact hk _
  split at hF
  · rename_i n hn
    simp only [hn]
    rcases Bool.eq_false_or_eq_true (twoT P ty && n.beq 2) with hb | hb
    · rw [cond_of_true hb] at hF
      subst hF
      simp only [Bool.and_eq_true] at hb
      have := Nat.eq_of_beq_eq_true hb.2
      subst this
      simp only
      generalize cellsAt 2 (e t) s = c
      unfold opt2
      split
      · exact hk _
      · exact .none _
    · rw [cond_of_false hb] at hF
      subst hF
      simp only
      cases cellsAt n (e t) s with
      | none => exact .none _
      | some v => exact hk _
  · rename_i hn
    simp only [hn]
    split at hF
    · rename_i kd hu
      subst hF
      simp only
      generalize cell1 (e t) s = c
      unfold opt1
      split
      · rename_i j n
        rcases Bool.eq_false_or_eq_true (kindEq j kd) with hb | hb
        · rw [cond_of_true hb]
          have := kindEq_eq hb
          subst this
          exact hk _
        · rw [cond_of_false hb]; exact .none _
      · exact .none _
    · subst hF
      simp only
      generalize cell1 (e t) s = c
      unfold optB
      split
      · exact hk _
      · exact .none _
    · subst hF
      simp only
      split
      · rename_i cs off he
        rw [he]
        show Le (optLst _ (cs[off]?)) (nxK k' (valO (cs[off]?) s))
        generalize cs[off]? = c
        unfold optLst
        split
        · exact hk _
        · exact .none _
      · rename_i r off he
        rw [he] at one
        have two : Le (loadS orc k r off s) (nxK k' (valO (cell1 (.ptr r off) s) s)) := by
          unfold loadS
          split
          · rename_i r1 q
            rcases Bool.eq_false_or_eq_true (r.beq r1) with hb | hb
            · rw [cond_of_true hb]
              generalize cell1 (.ptr r off) s = c
              unfold optS
              split
              · rename_i r2 o n es tt
                rcases Bool.eq_false_or_eq_true (r2.beq q) with hb2 | hb2
                · rw [cond_of_true hb2, Nat.eq_of_beq_eq_true hb2]; exact hk _
                · rw [cond_of_false hb2]; exact .none _
              · exact .none _
            · rw [cond_of_false hb]; exact one
          · exact one
        rw [he]; exact two
      · exact one
    · subst hF; exact one
  · subst hF; exact .none _
theorem optI_le {k : Nat → Option β} {a : AV} {r : Option β} (h : ∀ i, natOf a = some i → Le (k i) r) : Le (optI k a) r := by
  unfold optI
  split
  · rename_i z
    unfold optNat
    split
    · exact h _ rfl
    · exact .none _
  · exact .none _
theorem indexAddrK_le {ty : TypeId} {x i : T → AV} {k k' : Nx → Option β} (hk : ∀ nx, Le (k nx) (k' nx)) (t : T) (s : St) : Le (indexAddrK P ty x i k t s) (nxK k' (indexAddrC P ty x i t s)) := by
  have hplain : ∀ nx, Le (nxK k nx) (nxK k' nx) := fun nx => by cases nx <;> first | exact hk _ | exact .none _
  suffices key : ∀ F, indexAddrK P ty x i k = F → Le (F t s) (nxK k' (indexAddrC P ty x i t s)) from key _ rfl
  intro F hF
  unfold indexAddrK at hF
  split at hF
  · rename_i e hu
    split at hF
    · rename_i n hn
      subst hF
      simp only [indexAddrC, hu, hn]
      split
      · rename_i r off len es tt h2
        simp only [h2]
        refine optI_le fun i hi => ?_
        simp only [hi]
        refine Le.ifK fun hc => ?_
        rw [hc]; exact hk _
      · rename_i cs len tt nl h2
        simp only [h2]
        refine optI_le fun i hi => ?_
        simp only [hi]
        refine Le.ifK fun hc => ?_
        rw [hc]; exact hk _
      · exact .none _
    · subst hF; exact .none _
  · rename_i len e hu
    split at hF
    · rename_i n hn
      subst hF
      simp only [indexAddrC, hu, hn]
      split
      · rename_i r off h2
        simp only [h2]
        refine optI_le fun i hi => ?_
        simp only [hi]
        refine Le.ifK fun hc => ?_
        rw [hc]; exact hk _
      · rename_i cs off h2
        simp only [h2]
        refine optI_le fun i hi => ?_
        simp only [hi]
        refine Le.ifK fun hc => ?_
        rw [hc]; exact hk _
      · exact .none _
    · subst hF; exact .none _
  · subst hF; exact hplain _
theorem rowAtK_le {s : St} {r : Nat} {k : Row → Option β} {y : Option β} (h : ∀ o, rowAt s r = some o → Le (k o) y) : Le (rowAtK s r k) y := by
  unfold rowAtK
  split
  · rename_i o ho
    refine Le.ifK fun hv => h o ?_
    unfold rowAt
    rw [ho]
    simp only [hv, cond_true]
  · exact .none _
theorem appendAK_le {ty : TypeId} {es n : Nat} {a : AV} {new : List AV} {s : St} {k k' : Nx → Option β} (hk : ∀ nx, Le (k nx) (k' nx)) : Le (appendAK ty es a new n s k) (nxK k' (appendA ty es a new n s)) := by
  unfold appendAK appendA
  split
  · cases n.beq 0 with
    | true => exact hk _
    | false => exact Le.ifK fun hc => by simp only [hc, cond_true, cond_false]; exact hk _
  · rename_i r off len es' tight
    cases n.beq 0 with
    | true => exact hk _
    | false =>
      refine Le.ifK fun hc => ?_
      simp only [hc, cond_false, cond_true]
      refine rowAtK_le fun o ho => ?_
      · simp only [ho]
        refine Le.ifK fun hc2 => ?_
        rw [hc2]
        cases tight with
        | true =>
          simp only [cond_true]
          cases cutN (len * es) off o.vals with
          | none => exact .none _
          | some old => exact hk _
        | false =>
          simp only [cond_true, cond_false]
          split
          · rename_i q hq
            unfold appendTK appendT
            cases cutN (len * es) off o.vals with
            | none => exact .none _
            | some old => simp only [optK, hq]; exact hk _
          · exact .none _
  · exact .none _
theorem unsafeStrK_le {pt : TypeId} {x n : T → AV} {k k' : Nx → Option β} (hk : ∀ nx, Le (k nx) (k' nx)) (t : T) (s : St) : Le (unsafeStrK P pt x n k t s) (nxK k' (unsafeStringC P pt x n t s)) := by
  suffices key : ∀ F, unsafeStrK P pt x n k = F → Le (F t s) (nxK k' (unsafeStringC P pt x n t s)) from key _ rfl
  intro F hF
  unfold unsafeStrK at hF
  unfold unsafeStringC
  split at hF
  · rename_i e hu
    simp only [hu]
    split at hF
    · rename_i hs
      subst hF
      simp only [hs]
      generalize n t = nn
      generalize x t = xx
      split
      · exact hk _
      · exact hk _
      · rename_i m r off
        simp only
        cases rowAt s r with
        | none => exact .none _
        | some o =>
          simp only
          rcases Bool.eq_false_or_eq_true (o.ty.beq e && Nat.ble (m + 1) 9223372036854775807) with hb | hb
          · rw [hb]
            simp only [cond_true]
            cases cutN (m + 1) off o.vals with
            | none => exact .none _
            | some cs =>
              show Le (optK _ (bytesOf cs)) _
              simp only
              cases bytesOf cs with
              | none => exact .none _
              | some l =>
                simp only [optK]
                cases retire s o with
                | none => exact .none _
                | some s' => exact hk _
          · rw [hb]; exact .none _
      · exact .none _
    · subst hF; exact .none _
  · subst hF; exact .none _
theorem appendK_le {ty tx : TypeId} {a x : T → AV} {k k' : Nx → Option β} (hk : ∀ nx, Le (k nx) (k' nx)) (t : T) (s : St) : Le (appendK P ty tx a x k t s) (nxK k' (appendC P ty tx a x t s)) := by
  suffices key : ∀ F, appendK P ty tx a x k = F → Le (F t s) (nxK k' (appendC P ty tx a x t s)) from key _ rfl
  intro F hF
  unfold appendK at hF
  unfold appendC
  rcases Bool.eq_false_or_eq_true (seqT P tx) with hb | hb
  · rw [cond_of_true hb] at hF
    rw [hb]
    split at hF
    · rename_i e he
      simp only [he, cond_true]
      split at hF
      · rename_i n b z h1 h2 h3
        simp only [h1, h2, h3]
        rcases Bool.eq_false_or_eq_true (Nat.ble b 65536 && n.beq z.cells.length) with hc | hc
        · rw [cond_of_true hc] at hF
          subst hF
          simp only [hc, cond_true]
          split
          · rename_i m j hm hj
            simp only [hm, hj]
            refine Le.ifK fun hd => ?_
            rw [hd]
            simp only [cond_true]
            cases elemsN n m (x t) s with
            | none => exact .none _
            | some new =>
              simp only [optK]
              refine Le.ifK fun hn => ?_
              rw [hn]
              exact appendAK_le hk
          · exact .none _
        · rw [cond_of_false hc] at hF; subst hF; exact .none _
      · subst hF; exact .none _
    · subst hF; exact .none _
  · rw [cond_of_false hb] at hF; subst hF; exact .none _
theorem storeK_le {n : Option Nat} {a x : T → AV} {k k' : Nx → Option β} (hk : ∀ nx, Le (k nx) (k' nx)) (t : T) (s : St) : Le (storeK n a x k t s) (nxK k' (storeC n a x t s)) := by
  unfold storeK storeC
  cases n with
  | none => exact .none _
  | some n =>
    simp only
    split
    · rename_i r off e
      refine Le.ifK fun hc => ?_
      rw [e]
      simp only
      rw [cond_of_true hc]
      split
      · rename_i o ho
        refine Le.ifK fun hv => ?_
        have hr : rowAt s r = some o := by unfold rowAt; rw [ho]; simp only [hv, cond_true]
        rcases Bool.eq_false_or_eq_true o.solo with hs | hs
        · rw [cond_of_true hs]
          unfold storeCellsA
          simp only [hr]
          cases overwrite o.vals off (x t).cells with
          | none => exact .none _
          | some vals =>
            simp only [hs, cond_true]
            exact hk _
        · rw [cond_of_false hs]
          cases skipO (storeCellsA s r off (x t).cells) <;> first | exact hk _ | exact .none _
      · exact .none _
    · exact .none _
theorem makeSliceK_le {ty : TypeId} {l c : T → AV} {k k' : Nx → Option β} (hk : ∀ nx, Le (k nx) (k' nx)) (t : T) (s : St) : Le (makeSliceK P ty l c k t s) (nxK k' (makeSliceC P ty l c t s)) := by
  suffices key : ∀ F, makeSliceK P ty l c k = F → Le (F t s) (nxK k' (makeSliceC P ty l c t s)) from key _ rfl
  intro F hF
  unfold makeSliceK at hF
  unfold makeSliceC
  split at hF
  · rename_i e he
    simp only [he]
    split at hF
    · rename_i z n b h1 h2 h3
      simp only [h1, h2, h3]
      rcases Bool.eq_false_or_eq_true (n.beq z.cells.length && Nat.ble b 65536) with hc | hc
      · rw [cond_of_true hc] at hF
        subst hF
        simp only [hc, cond_true]
        cases hl : natOf (l t) with
        | none => exact .none _
        | some l' =>
          cases hcc : natOf (c t) with
          | none => exact .none _
          | some c' =>
            simp only [optK]
            refine Le.ifK fun hd => ?_
            rw [hd]
            exact hk _
      · rw [cond_of_false hc] at hF; subst hF; exact .none _
    · subst hF; exact .none _
  · subst hF; exact .none _
theorem sliceK_le {ty : TypeId} {x : T → AV} {lo hi mx : Option (T → AV)} {k k' : Nx → Option β} (hk : ∀ nx, Le (k nx) (k' nx)) (t : T) (s : St) : Le (sliceK P ty x lo hi mx k t s) (nxK k' (sliceC P ty x lo hi mx t s)) := by
  have hplain : ∀ nx, Le (nxK k nx) (nxK k' nx) := fun nx => by cases nx <;> first | exact hk _ | exact .none _
  suffices key : ∀ F, sliceK P ty x lo hi mx k = F → Le (F t s) (nxK k' (sliceC P ty x lo hi mx t s)) from key _ rfl
  intro F hF
  unfold sliceK at hF
  split at hF
  · rename_i e hu
    split at hF
    · rename_i n hn
      subst hF
      simp only
      split
      · rename_i r off len es tight hx
        have hC : sliceC P ty x lo hi none t s = valO (sliceA n (.sl r off len es tight) (optE lo t) (optE hi t) none) s := by
          unfold sliceC
          simp only [hu, hn, hx]
          rfl
        rw [hC]
        unfold sliceA
        cases h1 : bound 0 (optE lo t) with
        | none => exact .none _
        | some l =>
          cases h2 : bound len (optE hi t) with
          | none => exact .none _
          | some h =>
            simp only [optK]
            refine Le.ifK fun hd => ?_
            simp only [h2, hd, cond_true]
            exact hk _
      · rename_i cs len tight nl hx
        have hC : sliceC P ty x lo hi none t s = valO (sliceA n (.lst cs len tight nl) (optE lo t) (optE hi t) none) s := by
          unfold sliceC
          simp only [hu, hn, hx]
          rfl
        rw [hC]
        unfold sliceA
        cases h1 : bound 0 (optE lo t) with
        | none => exact .none _
        | some l =>
          cases h2 : bound len (optE hi t) with
          | none => exact .none _
          | some h =>
            simp only [optK]
            refine Le.ifK fun hd => ?_
            simp only [h2, hd, cond_true]
            exact hk _
      · exact hplain _
    · subst hF; exact hplain _
  · rename_i hu
    subst hF
    simp only
    split
    · rename_i b hx
      have hC : sliceC P ty x lo hi none t s = valO (sliceA 1 (.str b) (optE lo t) (optE hi t) none) s := by
        unfold sliceC
        simp only [hu, hx]
        rfl
      rw [hC]
      unfold sliceA
      cases h1 : bound 0 (optE lo t) with
      | none => exact .none _
      | some l =>
        cases h2 : bound b.length (optE hi t) with
        | none => exact .none _
        | some h =>
          simp only [optK]
          refine Le.ifK fun hd => ?_
          simp only [h2, hd, cond_true]
          exact hk _
    · exact hplain _
  · subst hF; exact hplain _
theorem indexK_le {ty : TypeId} {x i : T → AV} {k k' : Nx → Option β} (hk : ∀ nx, Le (k nx) (k' nx)) (t : T) (s : St) : Le (indexK P ty x i k t s) (nxK k' (indexC P ty x i t s)) := by
  have hplain : ∀ nx, Le (nxK k nx) (nxK k' nx) := fun nx => by cases nx <;> first | exact hk _ | exact .none _
  suffices key : ∀ F, indexK P ty x i k = F → Le (F t s) (nxK k' (indexC P ty x i t s)) from key _ rfl
  intro F hF
  unfold indexK at hF
  split at hF
  · rename_i hu
    subst hF
    simp only [indexC, hu]
    split
    · rename_i l hl
      simp only [hl]
      refine optI_le fun i hi => ?_
      simp only [hi]
      cases l[i]? with
      | none => exact .none _
      | some b => exact hk _
    · exact .none _
  · subst hF; exact hplain _
theorem findK_le {d : KK} {key : AV} {k : Option AV → Option β} {r : Option (Option AV) → Option β} (h : ∀ v, Le (k v) (r (some v))) : ∀ es : List (AV × AV), Le (findK d key k es) (r (findA d key es))
  | [] => h none
  | (x, v) :: l => by
    unfold findK findA
    cases eqKey d key x with
    | none => exact .none _
    | some b =>
      cases b with
      | true => exact h _
      | false => exact findK_le h l
def bytesNx (a : AV) (s : St) : Nx := match lenA a with
  | some n => match a with
    | .str _ => .fail
    | a => match elemsN 1 n a s with
      | some cs => match bytesOf cs with | some l => .val (.str l) s | none => .fail
      | none => .fail
  | none => .fail
theorem convK_le {o : Oper} {src dst : TypeId} {x : T → AV} {k k' : Nx → Option β} (hk : ∀ nx, Le (k nx) (k' nx)) (t : T) (s : St) : Le (convK P G o src dst x k t s) (nxK k' (convC P G o src dst x t s)) := by
  have hplain : ∀ nx, Le (nxK k nx) (nxK k' nx) := fun nx => by cases nx <;> first | exact hk _ | exact .none _
  suffices key : ∀ F, convK P G o src dst x k = F → Le (F t s) (nxK k' (convC P G o src dst x t s)) from key _ rfl
  intro F hF
  unfold convK at hF
  split at hF
  · rename_i e h1 h2
    split at hF
    · rename_i h3
      subst hF
      have hC : convC P G o src dst x t s = bytesNx (x t) s := by
        unfold convC
        simp only [h1, h2]
        unfold convertC
        simp only [h1, h2, h3]
        rfl
      rw [hC]
      have key : ∀ e : Option (List AV), Le (optK (fun cs => optK (fun l => k (.val (.str l) s)) (bytesOf cs)) e) (nxK k' (match e with | some cs => (match bytesOf cs with | some l => .val (.str l) s | none => .fail) | none => .fail)) := fun e => by
        cases e with
        | none => exact .none _
        | some cs =>
          simp only [optK]
          cases bytesOf cs with
          | none => exact .none _
          | some l => exact hk _
      simp only
      unfold bytesNx
      cases x t <;> first | exact .none _ | exact key _
    · subst hF; exact .none _
  · subst hF; exact hplain _
theorem copyK_le {ty : TypeId} {d x : T → AV} {k k' : Nx → Option β} (hk : ∀ nx, Le (k nx) (k' nx)) (t : T) (s : St) : Le (copyK P ty d x k t s) (nxK k' (copyC P ty d x t s)) := by
  have hplain : ∀ nx, Le (nxK k nx) (nxK k' nx) := fun nx => by cases nx <;> first | exact hk _ | exact .none _
  suffices key : ∀ F, copyK P ty d x k = F → Le (F t s) (nxK k' (copyC P ty d x t s)) from key _ rfl
  intro F hF
  unfold copyK at hF
  split at hF
  · rename_i e he
    split at hF
    · rename_i n hn
      subst hF
      simp only
      split
      · rename_i r off dl es tight hd
        cases hl : lenA (x t) with
        | none => exact .none _
        | some m =>
          simp only [optK]
          refine Le.ifK fun hne => ?_
          have hC : copyC P ty d x t s = (bif (Nat.min m dl).beq 0 then .val (.int .i64 0) s else
              match elemsN n (Nat.min m dl) (x t) s with
              | some new => bif new.all AV.single then match storeCellsA s r off new with | some s => .val (.int .i64 (Nat.min m dl : Nat)) s | none => .fail else .fail
              | none => .fail) := by
            unfold copyC
            simp only [he, hn, hd, hl, hne, cond_true]
            rfl
          cases hz : (Nat.min m dl).beq 0 with
          | true =>
            rw [hC, hz]
            exact hk _
          | false =>
            cases hnew : elemsN n (Nat.min m dl) (x t) s with
            | none => exact .none _
            | some new =>
              show Le (ifK (new.all AV.single) _) _
              refine Le.ifK fun hs => ?_
              split
              · rename_i o ho
                refine Le.ifK fun hv => ?_
                have hr : rowAt s r = some o := by unfold rowAt; rw [ho]; simp only [hv, cond_true]
                rcases Bool.eq_false_or_eq_true o.solo with hso | hso
                · rw [cond_of_true hso, hC, hz, hnew]
                  simp only [hs, cond_true, cond_false]
                  unfold storeCellsA
                  simp only [hr]
                  cases overwrite o.vals off new with
                  | none => exact .none _
                  | some vals =>
                    simp only [hso, cond_true]
                    exact hk _
                · rw [cond_of_false hso]
                  exact hplain _
              · exact .none _
      · exact .none _
    · subst hF; exact .none _
  · subst hF; exact .none _
theorem opK_le (hck : ∀ f args s (kr kr' : Res → Option β), (∀ r, Le (kr r) (kr' r)) → Le (ck f args s kr) (kr' (callF f args s))) {o : Oper} {k k' : Nx → Option β} (hk : ∀ nx, Le (k nx) (k' nx)) (t : T) (s : St) :
    Le (opK P G callF ck o k t s) (nxK k' (opC P G callF o t s)) := by
  have hres : ∀ r, Le (resK k r) (resK k' r) := fun r => by cases r <;> first | exact hk _ | exact .none _
  have hback : ∀ r, resK k' r = nxK k' (backNx r) := fun r => by cases r <;> rfl
  have hplain : Le (nxK k (opC P G callF o t s)) (nxK k' (opC P G callF o t s)) := by cases opC P G callF o t s <;> first | exact hk _ | exact .none _
  suffices key : ∀ F, opK P G callF ck o k = F → Le (F t s) (nxK k' (opC P G callF o t s)) from key _ rfl
  intro F hF
  unfold opK at hF
  split at hF
  · rename_i ty x e
    subst hF
    simp only [opC, e]
    exact loadK_le hk t s
  · rename_i ty x i e
    subst hF
    simp only [opC, e]
    exact indexAddrK_le hk t s
  · rename_i ty a x e
    subst hF
    simp only [opC, e]
    exact storeK_le hk t s
  · rename_i q1 f args q2 e
    simp only [opC, e, callC]
    split at hF
    · rename_i g
      subst hF
      simp only
      rw [← hback]
      exact hck g _ s _ _ hres
    · rename_i hne
      subst hF
      split
      · rename_i g; exact absurd rfl (hne g)
      · simp only
        split
        · rename_i g first captured e2
          simp only [e2]
          rw [← hback]
          exact hck g _ s _ _ hres
        · exact .none _
  · rename_i args ts e
    simp only [opC, e, builtinC]
    split at hF
    · rename_i a x ty tx ha ht
      subst hF
      simp only [ha, ht]
      exact appendK_le hk t s
    · subst hF; exact .none _
  · rename_i args ts e
    simp only [opC, e, builtinC]
    split at hF
    · rename_i x n pt q ha ht
      subst hF
      simp only [ha, ht]
      exact unsafeStrK_le hk t s
    · subst hF; exact .none _
  · rename_i args ts e
    simp only [opC, e, builtinC]
    split at hF
    · rename_i d x ty q ha ht
      subst hF
      simp only [ha, ht]
      exact copyK_le hk t s
    · subst hF; exact .none _
  · rename_i ty x lo hi mx e
    subst hF
    simp only [opC, e]
    exact sliceK_le hk t s
  · rename_i ty x i e
    subst hF
    simp only [opC, e]
    exact indexK_le hk t s
  · rename_i src dst x e
    subst hF
    simp only [opC, e]
    exact convK_le hk t s
  · rename_i ty l c e
    subst hF
    simp only [opC, e]
    exact makeSliceK_le hk t s
  · rename_i ty m key x e
    simp only [opC, e, mapUpdateC]
    split at hF
    · rename_i kt q hu
      simp only [hu]
      split at hF
      · rename_i d hd
        subst hF
        simp only [hd]
        cases isKey d (evC G key t) with
        | false => exact .none _
        | true =>
          simp only [cond_true]
          split
          · rename_i r hr
            split
            · rename_i es hes
              cases hp : putA d (evC G key t) (evC G x t) es with
              | none => exact .none _
              | some es' =>
                simp only [hr, hes, hp]
                exact hk _
            · exact .none _
          · exact .none _
      · subst hF; exact .none _
    · subst hF; exact .none _
  · rename_i ty m key e
    split at hF
    · rename_i kt el hu
      split at hF
      · rename_i z d hz hd
        rcases Bool.eq_false_or_eq_true (pairZ (some z)) with hp | hp
        · rw [cond_of_true hp] at hF
          subst hF
          simp only [opC, e, lookupC, hu, hz, hd]
          cases isKey d (evC G key t) with
          | false => exact .none _
          | true =>
            simp only [cond_true]
            cases mapEs (evC G m t) s with
            | none => exact .none _
            | some es =>
              simp only
              generalize findA d (evC G key t) es = r
              unfold asPair
              split
              · exact hk _
              · have hz0 : z = .agg [.int .i64 (.ofNat 0), .int .i64 (.ofNat 0)] := by
                  unfold pairZ at hp
                  split at hp
                  · rename_i e2; exact Option.some.inj e2
                  · cases hp
                subst hz0
                exact hk _
              · exact .none _
        · rw [cond_of_false hp] at hF
          subst hF
          simp only [opC, e, lookupC, hu, hz, hd]
          cases isKey d (evC G key t) with
          | false => exact .none _
          | true =>
            simp only [cond_true]
            cases mapEs (evC G m t) s with
            | none => exact .none _
            | some es =>
              exact findK_le (r := fun v => nxK k' (match v with | some (some x) => .val (bif true then .tup [x, .bool true] else x) s | some none => .val (bif true then .tup [z, .bool false] else z) s | none => .fail)) (fun v => by cases v <;> exact hk _) es
      · subst hF; exact .none _
    · subst hF; exact .none _
  · subst hF; exact hplain
theorem effK_le {put : AV → T → T} {chk : T → St → Bool} {fl : List Nat} {t : T} {k k' : KA β} (h : ∀ o t s, Le (k o t s) (k' o t s)) (nx : Nx) : Le (effK put chk fl t k nx) (goK k' (effEx put chk fl t nx)) := by
  have go : ∀ t s, Le (ifK (chk t s) (k .normal t s)) (goK k' (goOn chk t s)) := fun t s => by
    unfold goOn
    cases chk t s with
    | false => exact .none _
    | true => exact h _ _ _
  cases nx with
  | fail => exact .none _
  | panic v s => exact h _ _ _
  | _ => exact go _ _
theorem goK_le {k k' : KA β} (h : ∀ o t s, Le (k o t s) (k' o t s)) (e : Ex) : Le (goK k e) (goK k' e) := by
  cases e with
  | fail => exact .none _
  | mk o t s => exact h o t s
variable (hck : ∀ f args s (kr kr' : Res → Option β), (∀ r, Le (kr r) (kr' r)) → Le (ck f args s kr) (kr' (callF f args s)))
include hck
theorem itemK_le {it : Item} {k k' : KA β} (h : ∀ o t s, Le (k o t s) (k' o t s)) (t : T) (s : St) : Le (itemK P G callF ck ops it k t s) (goK k' (itemC P G callF ops it t s)) := by
  have eff : ∀ t s, Le (opK P G callF ck it.p.o (effK (putC it.p.dst) (againsC P G callF ops it.chk) it.fl t k) t s) (goK k' (runEff (opC P G callF it.p.o) (putC it.p.dst) (againsC P G callF ops it.chk) it.fl t s)) := fun t s x hx => by
    have := opK_le hck (k' := fun nx => goK k' (effEx (putC it.p.dst) (againsC P G callF ops it.chk) it.fl t nx)) (fun nx => effK_le h nx) t s x hx
    unfold runEff
    generalize opC P G callF it.p.o t s = nx at this
    cases nx <;> first | exact this | (simp only [nxK] at this; cases this)
  have pl : ∀ t s, Le (opK P G callF ck it.p.o (fun nx => goK k (plainEx (putC it.p.dst) t nx)) t s) (goK k' (runPlain (opC P G callF it.p.o) (putC it.p.dst) t s)) := fun t s x hx => by
    have := opK_le hck (k' := fun nx => goK k' (plainEx (putC it.p.dst) t nx)) (fun nx => goK_le h _) t s x hx
    unfold runPlain
    generalize opC P G callF it.p.o t s = nx at this
    cases nx <;> first | exact this | (simp only [nxK, plainEx, goK] at this; cases this)
  unfold itemK itemC
  cases hg : it.p.o.guard with
  | none =>
    simp only
    cases it.p.kd.isEff with
    | true => exact eff t s
    | false => exact pl t s
  | some g =>
    simp only [runGuard]
    cases guardC ops (some g) t with
    | none => exact .none _
    | some b =>
      cases b with
      | false => exact h _ _ _
      | true =>
        simp only [cond_true]
        cases it.p.kd.isEff with
        | true => exact eff t s
        | false => exact pl t s
theorem itemsK_le {k k' : KA β} (h : ∀ o t s, Le (k o t s) (k' o t s)) : ∀ (l : List Item) (t : T) (s : St), Le (itemsK P G callF ck ops l k t s) (goK k' (itemsC P G callF ops l t s))
  | [], _, _ => h _ _ _
  | it :: l, t, s => by
    simp only [itemsK, itemsC, thenC]
    rw [decideK_eq]
    intro x hx
    have := itemK_le hck (k' := fun o t s => match o with | .normal => goK k' (itemsC P G callF ops l t s) | o => k' o t s) (fun o t s => by
      cases o <;> first | exact itemsK_le h l t s | exact h _ _ _) t s x hx
    cases he : itemC P G callF ops it t s with
    | fail => rw [he] at this; cases this
    | mk o t1 s1 =>
      rw [he] at this
      cases o <;> exact this
theorem regionK_le {draw : Bool} {k k' : KA β} (h : ∀ o t s, Le (k o t s) (k' o t s)) (t : T) (s : St) : Le (regionK P G callF ck ops draw k t s) (goK k' (regionC P G callF ops draw t s)) := by
  unfold regionK regionC
  cases draw with
  | false => exact itemsK_le hck h _ t s
  | true =>
    simp only [cond_true]
    cases planOf P ops with
    | none => exact .none _
    | some l => exact itemsK_le hck h l t s
omit hck in
theorem keepK_ok {nb : Nat} {s : St} : ∀ {l : List AV} {us : List Nat} {j : Nat} {k : List KItem → List AV → Option β} {x : β}, keepK nb s us j l k = some x → ∃ is vs, keepI nb s us j l = some (is, vs) ∧ k is vs = some x
  | [], us, j, k, x, h => ⟨[], [], rfl, h⟩
  | v :: l, us, j, k, x, h => by
    have other : ∀ {v : AV}, (∀ r off len es tight, v ≠ .sl r off len es tight) → ifK (AV.under nb v) (keepK nb s us j l fun is vs => k is (v :: vs)) = some x → ∃ is vs, keepI nb s us j (v :: l) = some (is, vs) ∧ k is vs = some x := fun {v} hv h => by
      cases hu : AV.under nb v with
      | false => rw [hu] at h; cases h
      | true =>
        rw [hu] at h
        obtain ⟨is, vs, h1, h2⟩ := keepK_ok h
        refine ⟨is, v :: vs, ?_, h2⟩
        unfold keepI
        split
        · exact absurd rfl (hv _ _ _ _ _)
        · rw [hu, h1]; rfl
    unfold keepK at h
    split at h
    · rename_i r off len es tight
      cases hb : Nat.blt r nb with
      | true =>
        rw [hb] at h
        obtain ⟨is, vs, h1, h2⟩ := keepK_ok h
        exact ⟨is, _, by simp only [keepI, hb, cond_true, h1, consV], h2⟩
      | false =>
        rw [hb] at h
        replace h : (match s.get r with
        | some (.row o) => ifK (valid s o) (ifK (Nat.ble nb o.root && !hasN o.root us) (optK (fun cs => ifK (nonNil cs && AV.plains cs)
            (keepK nb s (o.root :: us) (j + 1) l fun is vs => k (⟨r, off, o, cs⟩ :: is) (.sl (nb + j) 0 len es false :: vs))) (cutX len es off o.vals)))
        | _ => none) = some x := h
        split at h
        · rename_i o ho
          cases hv : valid s o with
          | false => rw [hv] at h; cases h
          | true =>
            rw [hv] at h
            simp only [ifK] at h
            cases hr : Nat.ble nb o.root && !hasN o.root us with
            | false => rw [hr] at h; cases h
            | true =>
              rw [hr] at h
              simp only at h
              cases hc : cutX len es off o.vals with
              | none => rw [hc] at h; cases h
              | some cs =>
                rw [hc] at h
                simp only [optK] at h
                cases hp : nonNil cs && AV.plains cs with
                | false => rw [hp] at h; cases h
                | true =>
                  rw [hp] at h
                  obtain ⟨is, vs, h1, h2⟩ := keepK_ok h
                  have hrow : rowAt s r = some o := by unfold rowAt; rw [ho]; simp only [hv, cond_true]
                  exact ⟨_, _, by simp only [keepI, hb, cond_false, hrow, hr, cond_true, hc, hp, h1], h2⟩
        · cases h
    · rename_i hne
      exact other hne h
omit hck in
theorem packK_ok {nb : Nat} {ls : List Nat} {t : T} {s : St} {k : T → St → Option β} {x : β} (h : packK nb ls t s k = some x) : ∃ p, packC nb ls t s = some p ∧ k p.1 p.2 = some x := by
  unfold packK at h
  split at h
  · rename_i hds
    obtain ⟨is, vs, h1, h2⟩ := keepK_ok h
    cases hl : lowOkB s nb nb with
    | false => rw [hl] at h2; cases h2
    | true =>
      rw [hl] at h2
      exact ⟨(⟨slotsT ls vs .nil, t.n, [], t.rc⟩, packS s nb is), by simp only [packC, hds, h1, hl, cond_true], h2⟩
  · cases h
omit hck in
theorem packRK_ok {nb p : Nat} {ls : List Nat} {t : T} {s : St} {k : T → St → Option β} {x : β} (h : packRK nb ls p t s k = some x) : ∃ q, packRC nb ls p t s = some q ∧ k q.1 q.2 = some x := by
  unfold packRK at h
  unfold packRC
  split at h
  case h_2 => cases h
  rename_i hds
  split at h
  case h_2 => cases h
  rename_i hpt
  split at h
  case h_2 => cases h
  rename_i ho
  unfold ifK at h
  split at h
  case h_2 => cases h
  rename_i hb
  obtain ⟨is, vs, h1, h2⟩ := keepK_ok h
  simp only [hds, hpt, ho, hb, h1, cond_true]
  exact ⟨_, rfl, h2⟩
omit hck in
theorem loopK_le {m : Mode} {nb : Nat} {b : KA β → T → St → Option β} {d : K} (hd : ∀ (k k' : KA β), (∀ o t s, Le (k o t s) (k' o t s)) → ∀ t s, Le (b k t s) (goK k' (d t s))) {k k' : KA β} (h : ∀ o t s, Le (k o t s) (k' o t s)) :
    ∀ n t s, Le (loopK m nb b k n t s) (goK k' (loopD m nb d n t s))
  | 0, _, _ => .none _
  | n + 1, t, s => by
    intro x hx
    simp only [loopK] at hx
    have := hd _ (fun o t s => match o with | .normal => (match nextC m nb t s with | some p => goK k' (loopD m nb d n p.1 p.2) | none => none) | o => k' o t s) (fun o t s => by
      cases o with
      | normal =>
        simp only
        cases m with
        | all => exact loopK_le hd h n _ _
        | keep l => exact loopK_le hd h n _ _
        | pack l =>
          simp only [nextC]
          intro x hx
          obtain ⟨p, h1, h2⟩ := packK_ok hx
          rw [h1]
          exact loopK_le hd h n _ _ x h2
        | packR l q k =>
          simp only [nextC]
          intro x hx
          obtain ⟨p, h1, h2⟩ := packRK_ok hx
          rw [h1]
          exact loopK_le hd h n _ _ x h2
      | _ => exact h _ _ _) t s x hx
    simp only [loopD]
    cases he : d t s with
    | fail => rw [he] at this; cases this
    | mk o t1 s1 =>
      rw [he] at this
      cases o with
      | normal =>
        simp only [goK] at this ⊢
        cases hn : nextC m nb t1 s1 with
        | none => rw [hn] at this; cases this
        | some p => rw [hn] at this; exact this
      | _ => exact this
theorem execK_le {b0 : Option Nat} : ∀ (c : Code) (i : Nat) {k k' : KA β}, (∀ o t s, Le (k o t s) (k' o t s)) → ∀ (t : T) (s : St), Le (execK P G callF ck D b0 n c i k t s) (goK k' (execD P G callF D b0 n c i t s))
  | .skip, _, _, _, h, _, _ => h _ _ _
  | .region _ ops draw, _, _, _, h, t, s => regionK_le hck h t s
  | .seq a b, i, k, k', h, t, s => by
    intro x hx
    simp only [execK] at hx
    have := execK_le a i (k' := fun o t s => match o with | .normal => goK k' (execD P G callF D b0 n b i t s) | o => k' o t s) (fun o t s => by
      cases o <;> first | exact execK_le b i h t s | exact h _ _ _) t s x hx
    simp only [execD, thenC]
    cases he : execD P G callF D b0 n a i t s with
    | fail => rw [he] at this; cases this
    | mk o t1 s1 =>
      rw [he] at this
      cases o <;> exact this
  | .cond c a b, i, k, k', h, t, s => by
    simp only [execK, execD, condC]
    rw [decideK_eq]
    cases evC G c t with
    | bool u => cases u <;> simp only [cond_true, cond_false] <;> first | exact execK_le a i h t s | exact execK_le b i h t s
    | _ => exact .none _
  | .block id c, _, k, k', h, t, s => by
    intro x hx
    simp only [execK] at hx
    have := execK_le c id (k' := fun o t s => match o with | .exit j => bif j.beq id then k' .normal t s else k' (.exit j) t s | o => k' o t s) (fun o t s => by
      cases o <;> first | exact Le.cond (h _ _ _) (h _ _ _) | exact h _ _ _) t s x hx
    simp only [execD, blockC]
    cases he : execD P G callF D b0 n c id t s with
    | fail => rw [he] at this; cases this
    | mk o t1 s1 =>
      rw [he] at this
      cases o with
      | exit j =>
        simp only [goK] at this ⊢
        revert this
        cases j.beq id <;> exact fun h => h
      | _ => exact this
  | .loop c, i, _, _, h, _, _ => loopK_le (fun _ _ h t s => execK_le c i h t s) h n _ _
  | .exit _, _, _, _, h, _, _ => h _ _ _
  | .ret, _, _, _, h, _, _ => h _ _ _
  | .label _, _, _, _, h, _, _ => h _ _ _
  | .rangeFunc _ _ _ _, _, _, _, _, _, _ => .none _
  | .scope _, _, _, _, _, _, _ => .none _
  | .goto _, _, _, _, _, _, _ => .none _
  | .refuse _, _, _, _, _, _, _ => .none _
theorem bodyJ_le {kr kr' : Res → Option β} (h : ∀ r, Le (kr r) (kr' r)) (fn : Option Func) (args : List AV) (s : St) : Le (bodyJ P G callF ck D kr n fn args s) (kr' (bodyD P G callF D n fn args s)) := by
  unfold bodyJ bodyD
  cases fn with
  | none => exact .none _
  | some fn =>
    simp only
    cases hbd : fn.body with
    | none => exact .none _
    | some body =>
      simp only
      cases Nat.ble args.length fn.ntmps with
      | false => exact .none _
      | true =>
        simp only [cond_true]
        intro x hx
        have := execK_le hck (D := D) body 0 (k' := fun o t s => kr' (finC P fn.results.toList (callB P G callF n) (.mk o t s))) (fun o t s => h _) _ s x hx
        generalize execD P G callF D (baseO D s.next) n body 0 ⟨setArgs args 0 .nil, fn.ntmps, [], .no⟩ s = e at this
        cases e with
        | fail => cases this
        | mk o t1 s1 => exact this
end
theorem noLive_exec {P : Program} {G : Glob} {callF : CF} {b : Option Nat} {n : Nat} : ∀ (c : Code) (i : Nat), execD P G callF noLive b n c i = execC P G callF n c
  | .skip, _ => rfl
  | .region _ _ _, _ => rfl
  | .seq a b, i => by simp only [execD, execC]; rw [noLive_exec a, noLive_exec b]
  | .cond c a b, i => by simp only [execD, execC]; rw [noLive_exec a, noLive_exec b]
  | .block id c, _ => by simp only [execD, execC]; rw [noLive_exec c]
  | .loop c, i => by
    simp only [execD, execC]
    rw [noLive_exec c]
    have : ∀ nb m, loopD (noLive i) nb (execC P G callF n c) m = loopN (execC P G callF n c) m := by
      intro nb m
      induction m with
      | zero => rfl
      | succ m ih =>
        funext t s
        simp only [loopD, loopN, thenC]
        cases execC P G callF n c t s with
        | fail => rfl
        | mk o t1 s1 => cases o <;> simp only [← ih] <;> rfl
    funext t s
    rw [this]
    rfl
  | .exit _, _ => rfl
  | .ret, _ => rfl
  | .label _, _ => rfl
  | .rangeFunc _ _ _ _, _ => rfl
  | .scope _, _ => rfl
  | .goto _, _ => rfl
  | .refuse _, _ => rfl
theorem noLive_body {P : Program} {G : Glob} {callF : CF} {n : Nat} (fn : Option Func) : bodyD P G callF noLive n fn = bodyC P G callF n fn := by
  unfold bodyD bodyC
  cases fn with
  | none => rfl
  | some fn =>
    simp only
    cases fn.body with
    | none => rfl
    | some c => simp only [noLive_exec c]
theorem callK_le {P : Program} {G : Glob} {X : Known} {loops : Nat} : ∀ (n : Nat) (f : FuncId) (args : List AV) (s : St) (kr kr' : Res → Option β), (∀ r, Le (kr r) (kr' r)) → Le (callK P G X loops n f args s kr) (kr' (callN P G X loops n f args s))
  | 0, _, _, _, _, _, _ => .none _
  | n + 1, f, args, s, kr, kr', h => by
    simp only [callK, callN]
    cases X f with
    | some g => exact h _
    | none =>
      simp only
      rw [← noLive_body]
      exact bodyJ_le (callK_le n) h _ args s
theorem bodyK_le {P : Program} {G : Glob} {X : Known} {loops n m : Nat} {D : Live} {kr : Res → Option β} {fn : Option Func} {args : List AV} {s : St} {x : β} (h : bodyK P G X loops n D kr m fn args s = some x) :
    kr (bodyD P G (callN P G X loops n) D m fn args s) = some x := bodyJ_le (callK_le n) (fun _ => .refl _) fn args s x h
end
/-! ## What is run from nothing -/
mutual
def AV.flat : AV → Bool
  | .ptr _ _ | .sl _ _ _ _ _ | .mp (some _) | .hptr _ | .ptrL _ _ | .lst (_ :: _) _ _ _ => false
  | .agg l | .tup l => AV.flats l
  | .fn _ a b => AV.flats a && AV.flats b
  | .ifc _ v => AV.flat v
  | _ => true
def AV.flats : List AV → Bool
  | [] => true
  | a :: l => AV.flat a && AV.flats l
end
mutual
theorem VR.flat {E E1 : Env} : ∀ {a : AV} {v : Value}, VR E1 a v → a.flat = true → VR E a v
  | _, _, .int k n, _ => .int k n
  | _, _, .bool b, _ => .bool b
  | _, _, .str s, _ => .str s
  | _, _, .nilp, _ => .nilp
  | _, _, .ptr _ _, p => by simp [AV.flat] at p
  | _, _, .ptrL _ _ _, p => by simp [AV.flat] at p
  | _, _, .sl _ _ _ _ _, p => by simp [AV.flat] at p
  | _, _, .lst .nil hl ht hn hc _, _ => .lst .nil hl ht hn hc (fun h => absurd rfl h)
  | _, _, .lst (.cons _ _) _ _ _ _ _, p => by simp [AV.flat] at p
  | _, _, .mpn, _ => .mpn
  | _, _, .mp _, p => by simp [AV.flat] at p
  | _, _, .hp _, p => by simp [AV.flat] at p
  | _, _, .fn a b, p => by
    simp [AV.flat] at p
    exact .fn (VRL.flat a p.1) (VRL.flat b p.2)
  | _, _, .nilfn, _ => .nilfn
  | _, _, .ifc h, p => .ifc (VR.flat h (by simpa [AV.flat] using p))
  | _, _, .nilifc, _ => .nilifc
  | _, _, .agg h, p => .agg (VRL.flat h (by simpa [AV.flat] using p))
  | _, _, .tup h, p => .tup (VRL.flat h (by simpa [AV.flat] using p))
  | _, _, .lit v h, _ => .lit v h
  | _, _, .undef v, _ => .undef v
theorem VRL.flat {E E1 : Env} : ∀ {l : List AV} {r : List Value}, VRL E1 l r → AV.flats l = true → VRL E l r
  | _, _, .nil, _ => .nil
  | _, _, .cons h t, p => by
    simp [AV.flats] at p
    exact .cons (VR.flat h p.1) (VRL.flat t p.2)
end
def Env.none : Env := ⟨fun _ => .none, fun _ _ => .none, fun _ => 0, fun _ => .none, fun _ _ => False, fun _ _ _ _ => False⟩
def Env.bare (E : Env) : Env := { Env.none with z := E.z, bsz := E.bsz, H := E.H }
theorem Wf.empty : Wf St.empty where
  fresh r _ := St.get_empty r
  root r o e := by rw [St.get_empty] at e; cases e
  solo r o e := by rw [St.get_empty] at e; cases e
  rle r o e := by rw [St.get_empty] at e; cases e
theorem Rel.bare {E : Env} {s : St} {w : World} (h : Rel E s w) : Rel E.bare St.empty w where
  wf := .empty
  lt r b base e := by cases e
  obj r p e := by cases e
  z := h.z
  zap b o v r base _ e := by cases e
  row r o b base _ e := by cases e
  mapo r es b base _ e := by cases e
  iter r x n b base _ e := by cases e
  coh r1 r2 b b1 b2 e := by cases e
  b0 r o b base _ e := by cases e
  hid n d b _ e := by cases e
  own n c e := e.elim
  hlt n b e := by cases e
theorem Step.alone {E E1 : Env} {s s1 : St} {w w' : World} (h0 : Rel E s w) (h : Step E.bare St.empty w E1 s1 w') : Step E s w E s w' := by
  have hfr : ∀ b, b < w.heap.size → w'.heap[b]? = w.heap[b]? := fun b hb => h.fr b hb (fun r base e => by cases e) (fun n e => e)
  refine ⟨.refl E, fun _ _ => rfl, fun r b base e => .inr ⟨r, base, e⟩, ?_, fun _ _ _ _ _ => rfl, Nat.le_refl _, fun b hb _ _ => hfr b hb, h.os, h.tape, h.output, h.size, fun _ _ e => .inl e, fun _ d e => ⟨d, e⟩, fun _ _ _ e => .inl e⟩
  refine ⟨h0.wf, fun r b base e => ⟨(h0.lt r b base e).1, Nat.lt_of_lt_of_le (h0.lt r b base e).2 h.size⟩, h0.obj, fun b o v e => h.rel.z b o v (h.le.z b o v e), h0.zap, ?_, ?_, h0.iter, h0.coh, h0.b0,
    fun n d b e eb w1 hw => h0.hid n d b e eb w1 fun k hk => (hw k hk).trans (hfr k (h0.own n k hk).1), fun n k hk => ⟨Nat.lt_of_lt_of_le (h0.own n k hk).1 h.size, (h0.own n k hk).2⟩, h0.hlt⟩
  · intro r o b base e el
    rw [hfr b (h0.lt r b base el).2]
    exact h0.row r o b base e el
  · intro r es b base e el
    rw [hfr b (h0.lt r b base el).2]
    exact h0.mapo r es b base e el
def GlobPlain (G : Glob) : Prop := ∀ g cs, G.at_ g = some cs → AV.plains cs = true
theorem GlobOk.bare {E : Env} {w : World} {G : Glob} (hp : GlobPlain G) (h : GlobOk E G w) : GlobOk E.bare G w := ⟨⟨fun g cs hg => by
  obtain ⟨vs, h1, h2⟩ := h.1.1 g cs hg
  exact ⟨vs, VRL.plain (E := E.bare) (E1 := E) (fun _ _ _ e => e) h1 (hp g cs hg), h2⟩, fun g n hg => h.1.2 g n hg⟩, h.2⟩
def Res.val? : Res → Option AV
  | .ret v _ => some v
  | _ => none
theorem flat_known {P : Program} {G : Glob} (hm : P.follows .mixedOrders = true) (hn : NoNG P) (hp : GlobPlain G) {X : Known} (hX : KnownOk P G X) {D : Live} {m loops n : Nat} {f : FuncId} {F : List AV → Option AV}
    (hF : ∀ args x, F args = some x → AV.plains args = true ∧ x.flat = true ∧ bodyK P G X loops n D Res.val? m P.funcs[f]? args St.empty = some x) :
    ∀ (args : List AV) (s : St) (E : Env) (w : World) (vs : List Value), Rel E s w → GlobOk E G w → VRL E args vs → ResOk P E s w f vs (pureX F args s) := by
  intro args s E w vs h hG ha
  unfold pureX
  cases hx : F args with
  | none => trivial
  | some x =>
    obtain ⟨h1, h2, h3⟩ := hF args x hx
    have h3 := bodyK_le h3
    have := bodyD_ok (D := D) hm hn (callN_ok hm hn hX loops n) m f args St.empty E.bare w vs h.bare (hG.bare hp) (VRL.plain (E := E.bare) (E1 := E) (fun _ _ _ e => e) ha h1)
    cases hb : bodyD P G (callN P G X loops n) D m P.funcs[f]? args St.empty with
    | ret y s1 =>
      rw [hb] at h3 this
      simp only [Res.val?, Option.some.injEq] at h3
      subst h3
      rcases this with ⟨h4, h5⟩ | ⟨v', w', E', h4, h5, h6⟩
      · exact .inl ⟨h4, Calls.mono h5 fun e w' ⟨v', E', he, hs, hv⟩ => ⟨v', E, he, .alone h hs, hv.flat h2⟩⟩
      · exact .inr ⟨v', w', E, h4, .alone h h5, h6.flat h2⟩
    | _ => rw [hb] at h3; cases h3
end Go.Am
end
section
namespace Go.Am
def Known.none : Known := fun _ => .none
def Known.add (X : Known) (f : FuncId) (h : List AV → St → Res) : Known := fun g => bif Nat.beq g f then some h else X g
theorem KnownOk.none (P : Program) (G : Glob) : KnownOk P G .none := fun _ _ h => by cases h
theorem KnownOk.add {P : Program} {G : Glob} {X : Known} (hX : KnownOk P G X) {f : FuncId} {h : List AV → St → Res}
    (hf : ∀ (args : List AV) (s : St) (E : Env) (w : World) (vs : List Value), Rel E s w → GlobOk E G w → VRL E args vs → ResOk P E s w f vs (h args s)) : KnownOk P G (X.add f h) := by
  intro g k hk
  unfold Known.add at hk
  rcases Bool.eq_false_or_eq_true (Nat.beq g f) with hb | hb
  · rw [cond_of_true hb] at hk
    cases hk
    have := Nat.eq_of_beq_eq_true hb
    subst this
    exact hf
  · rw [cond_of_false hb] at hk
    exact hX g k hk
/-! ## The first loop of a code, and what is done behind it -/
def loopOf : Code → Nat → Option (Nat × Code)
  | .seq a b, i => match loopOf a i with | some r => some r | none => loopOf b i
  | .block id c, _ => loopOf c id
  | .loop c, i => some (i, c)
  | _, _ => none
section
variable {β : Type} (P : Program) (G : Glob) (X : Known) (loops n : Nat) (D : Live)
def bodyOf (f : FuncId) : Code := match P.funcs[f]? with | some fn => (match fn.body with | some c => c | none => .skip) | none => .skip
end
def slots : List (Nat × AV) → Tr AV → Tr AV
  | [], tr => tr
  | (i, v) :: l, tr => slots l (tr.setP v (pathOf i))
end Go.Am
end
section
namespace Go.Am
def St.one (d : Hid) : St := St.empty.push (.hid d)
theorem one_get (d : Hid) (r : Nat) : (St.one d).get r = if 0 = r then some (.hid d) else none := by
  unfold St.one
  rw [St.get_push, St.get_empty]
  rfl
theorem one_next (d : Hid) : (St.one d).next = 1 := rfl
open Classical in
noncomputable def Env.stay (E : Env) (w : World) : Nat → Nat → Option Value := fun b o => if ∃ r base, E.loc r = some (b, base) then w.cell? ⟨b, o, .none⟩ else E.z b o
noncomputable def Env.one (E : Env) (n : Nat) (w : World) : Env :=
  { loc := fun _ => .none, z := E.stay w, bsz := E.bsz, hb := fun m => if m = 0 then E.hb n else .none, own := fun m c => m = 0 ∧ E.own n c, H := E.H }
section
variable {E : Env} {s : St} {w : World}
theorem stay_at {b base r : Nat} (h : E.loc r = some (b, base)) (o : Nat) : E.stay w b o = w.cell? ⟨b, o, none⟩ := by
  unfold Env.stay; rw [if_pos ⟨r, base, h⟩]
theorem stay_not {b : Nat} (h : ∀ r base, E.loc r ≠ some (b, base)) (o : Nat) : E.stay w b o = E.z b o := by
  unfold Env.stay; rw [if_neg (fun ⟨r, base, e⟩ => h r base e)]
theorem stay_cell (h : Rel E s w) {b o : Nat} {v : Value} (e : E.stay w b o = some v) : w.cell? ⟨b, o, none⟩ = some v := by
  unfold Env.stay at e
  split at e
  · exact e
  · exact h.z b o v e
theorem stay_z (h : Rel E s w) {b o : Nat} {v : Value} (e : E.z b o = some v) : E.stay w b o = some v := by
  rw [stay_not (fun r base e2 => h.zap b o v r base e e2)]; exact e
theorem stay_own (h : Rel E s w) {n c : Nat} (hc : E.own n c) (o : Nat) : E.stay w c o = none := by
  rw [stay_not (h.own n c hc).2.1]; exact (h.own n c hc).2.2.1 o
theorem Rel.one (h : Rel E s w) {n : Nat} {d : Hid} (hd : s.get n = some (.hid d)) : Rel (E.one n w) (St.one d) w where
  wf := Wf.empty.push_other _ (by intro o; simp)
  lt r b base e := by cases e
  obj r p e := by cases e
  z b o v e := stay_cell h e
  zap b o v r base _ e := by cases e
  row r o b base _ e := by cases e
  mapo r es b base _ e := by cases e
  iter r x n b base _ e := by cases e
  coh r1 r2 b b1 b2 e := by cases e
  b0 r o b base _ e := by cases e
  hid m d1 b1 e eb w1 hw := by
    rw [one_get] at e
    split at e
    · rename_i h0
      subst h0
      cases e
      have hbe : (E.one n w).hb 0 = E.hb n := by show (if (0 : Nat) = 0 then E.hb n else .none) = E.hb n; rw [if_pos rfl]
      rw [hbe] at eb
      have := h.hid n d b1 hd eb w1 fun c hc => hw c ⟨rfl, hc⟩
      have e2 : (E.one n w).own 0 = E.own n := by funext c; exact propext ⟨fun x => x.2, fun x => ⟨rfl, x⟩⟩
      rw [e2]; exact this
    · cases e
  own m c e := ⟨(h.own n c e.2).1, fun r base e => (by cases e), stay_own h e.2, fun m' e' => e'.1.trans e.1.symm⟩
  hlt m b1 e := by
    have e : (if m = 0 then E.hb n else none) = some b1 := e
    by_cases hm : m = 0
    · subst hm; exact ⟨by rw [one_next]; omega, d, by rw [one_get, if_pos rfl]⟩
    · rw [if_neg hm] at e; cases e
theorem Wf.set_hid {n : Nat} {d d' : Hid} (h : Wf s) (hd : s.get n = some (.hid d)) : Wf (s.set n (.hid d')) ∧ (∀ r o, (s.set n (.hid d')).get r = some (.row o) ↔ s.get r = some (.row o)) ∧
    (∀ r o, s.get r = some (.row o) → valid (s.set n (.hid d')) o = valid s o) := by
  have hrow : ∀ r o, (s.set n (.hid d')).get r = some (.row o) ↔ s.get r = some (.row o) := fun r o => by
    by_cases hr : r = n
    · subst hr; rw [St.get_set_same, hd]; constructor <;> intro e <;> cases e
    · rw [St.get_set_ne _ _ (fun e => hr e.symm)]
  have hroot : ∀ r o, s.get r = some (.row o) → (s.set n (.hid d')).get o.root = s.get o.root := fun r o e => by
    obtain ⟨q, g1, _⟩ := h.root r o e
    rw [g1]; exact (hrow _ _).2 g1
  have hval : ∀ r o, s.get r = some (.row o) → valid (s.set n (.hid d')) o = valid s o := fun r o e => valid_congr (hroot r o e)
  refine ⟨⟨fun r hr => ?_, fun r o e => ?_, fun r o e hs => ?_, fun r o e => h.rle r o ((hrow r o).1 e)⟩, hrow, hval⟩
  · have hlt := h.lt hd
    have hr : s.next ≤ r := hr
    rw [St.get_set_ne _ _ (by omega)]; exact h.fresh r hr
  · have e := (hrow r o).1 e
    obtain ⟨q, g1, g2, g3, g4⟩ := h.root r o e
    exact ⟨q, by rw [hroot r o e]; exact g1, g2, g3, fun hv => g4 (by rw [← hval r o e]; exact hv)⟩
  · obtain ⟨k1, k2⟩ := h.solo r o ((hrow r o).1 e) hs
    exact ⟨k1, fun r2 o2 e2 h2 => k2 r2 o2 ((hrow r2 o2).1 e2) h2⟩
def Env.re (E : Env) (n : Nat) (own : Nat → Prop) : Env := { E with own := fun m c => if m = n then own c else E.own m c }
theorem Step.turned {w' : World} (h : Rel E s w) {n : Nat} {d d' : Hid} {b : Nat} (hd : s.get n = some (.hid d)) (hb : E.hb n = some b) {own : Nat → Prop}
    (hold : ∀ c, c < w.heap.size → ¬ E.own n c → w'.heap[c]? = w.heap[c]?) (hsz : w.heap.size ≤ w'.heap.size) (hos : w'.os = w.os) (htp : w'.tape = w.tape) (hout : w'.output = w.output)
    (hown : ∀ c, own c → c < w'.heap.size ∧ (E.own n c ∨ w.heap.size ≤ c)) (hH : ∀ w1 : World, (∀ c, own c → w1.heap[c]? = w'.heap[c]?) → E.H d' b own w1) :
    Step E s w (E.re n own) (s.set n (.hid d')) w' := by
  obtain ⟨hwf, hrow, hval⟩ := h.wf.set_hid (d' := d') hd
  have hne : ∀ c, c < w.heap.size → ∀ r base, E.loc r = some (c, base) → w'.heap[c]? = w.heap[c]? := fun c hc r base e => hold c hc fun ho => (h.own n c ho).2.1 r base e
  have hoth : ∀ r, r ≠ n → (s.set n (.hid d')).get r = s.get r := fun r hr => St.get_set_ne _ _ (fun e => hr e.symm)
  have hle : E.le (E.re n own) := ⟨fun _ _ e => e, fun _ _ _ e => e, fun _ _ _ _ => rfl, fun _ _ e => e, rfl⟩
  have hloc : ∀ r base c, E.loc r = some (c, base) → own c → False := fun r base c e ho => by
    rcases (hown c ho).2 with h1 | h1
    · exact (h.own n c h1).2.1 r base e
    · have := (h.lt r c base e).2; omega
  refine ⟨hle, fun _ _ => rfl, fun r c base e => .inr ⟨r, base, e⟩, ?_, fun r _ _ _ hh => hoth r (fun e => by subst e; exact hh d hd), Nat.le_refl _, fun c hc _ ho => hold c hc (ho n), hos, htp, hout, hsz, fun m c e => ?_, fun m d1 e => ?_, fun _ _ _ e => .inl e⟩
  · refine ⟨hwf, fun r c base e => ⟨(h.lt r c base e).1, Nat.lt_of_lt_of_le (h.lt r c base e).2 hsz⟩, fun r p e => ?_, fun c o v e => ?_, h.zap, fun r o c base e el => ?_, fun r es c base e el => ?_, fun r x k c base e el => ?_,
      fun r1 r2 c b1 b2 e1 e2 => ?_, fun r o c base e el hq => h.b0 r o c base ((hrow r o).1 e) el hq, fun m d1 b1 e eb w1 hw => ?_, fun m c e => ?_, fun m b1 e => ?_⟩
    · by_cases hr : r = n
      · subst hr; exact ⟨_, St.get_set_same _ _ _⟩
      · rw [hoth r hr]; exact h.obj r p e
    · have e : E.z c o = some v := e
      have h1 := h.z c o v e
      have hlt := World.block_lt_of_cell? w _ h1
      exact (World.cell?_of_block (w := w) (hold c hlt fun ho => by rw [(h.own n c ho).2.2.1 o] at e; cases e)).trans h1
    · have e := (hrow r o).1 e
      obtain ⟨c', ty, fz, g1, g2, g3, g4⟩ := h.row r o c base e el
      refine ⟨c', ty, fz, (hne c (h.lt r c base el).2 r base el).trans g1, g2, g3, fun hv => ?_⟩
      obtain ⟨hz, vs, k1, k2⟩ := g4 (by rw [← hval r o e]; exact hv)
      exact ⟨hz, vs, VRL.mono hle k1, k2⟩
    · have hr : r ≠ n := fun e2 => by subst e2; rw [St.get_set_same] at e; cases e
      rw [hoth r hr] at e
      obtain ⟨ents, clock, g1, g2, g3⟩ := h.mapo r es c base e el
      exact ⟨ents, clock, (hne c (h.lt r c base el).2 r base el).trans g1, VRL.mono hle g2, VRL.mono hle g3⟩
    · have hr : r ≠ n := fun e2 => by subst e2; rw [St.get_set_same] at e; cases e
      rw [hoth r hr] at e
      exact h.iter r x k c base e el
    · rcases h.coh r1 r2 c b1 b2 e1 e2 with h3 | ⟨o1, o2, k1, k2, k3, k4⟩
      · exact .inl h3
      · exact .inr ⟨o1, o2, (hrow r1 o1).2 k1, (hrow r2 o2).2 k2, k3, k4⟩
    · by_cases hm : m = n
      · subst hm
        rw [St.get_set_same] at e
        cases e
        have eb : E.hb m = some b1 := eb
        rw [hb] at eb; cases eb
        have e2 : (E.re m own).own m = own := by funext c; exact if_pos rfl
        rw [e2] at hw ⊢
        exact hH w1 hw
      · rw [hoth m hm] at e
        have e2 : (E.re n own).own m = E.own m := by funext c; exact if_neg hm
        rw [e2] at hw ⊢
        refine h.hid m d1 b1 e eb w1 fun c hc => (hw c hc).trans (hold c (h.own m c hc).1 fun ho => hm ((h.own n c ho).2.2.2 m hc))
    · have e : (if m = n then own c else E.own m c) := e
      have key : ∀ m', (if m' = n then own c else E.own m' c) → (c < w'.heap.size ∧ (E.own m' c ∨ m' = n ∧ w.heap.size ≤ c)) := fun m' e' => by
        by_cases hm' : m' = n
        · rw [if_pos hm'] at e'
          obtain ⟨q1, q2⟩ := hown c e'
          rcases q2 with q2 | q2
          · exact ⟨q1, .inl (by rw [hm']; exact q2)⟩
          · exact ⟨q1, .inr ⟨hm', q2⟩⟩
        · rw [if_neg hm'] at e'
          exact ⟨Nat.lt_of_lt_of_le (h.own m' c e').1 hsz, .inl e'⟩
      obtain ⟨q1, q2⟩ := key m e
      refine ⟨q1, fun r base el => ?_, fun o => ?_, fun m' e' => ?_⟩
      · have el : E.loc r = some (c, base) := el
        rcases q2 with q2 | ⟨_, q2⟩
        · exact (h.own m c q2).2.1 r base el
        · have := (h.lt r c base el).2; omega
      · show E.z c o = none
        rcases q2 with q2 | ⟨_, q2⟩
        · exact (h.own m c q2).2.2.1 o
        · cases hz : E.z c o with
          | none => rfl
          | some v => have := World.block_lt_of_cell? w _ (h.z c o v hz); simp at this; omega
      · obtain ⟨_, p2⟩ := key m' e'
        rcases q2 with q2 | ⟨q2, q3⟩ <;> rcases p2 with p2 | ⟨p2, p3⟩
        · exact (h.own m c q2).2.2.2 m' p2
        · have := (h.own m c q2).1; omega
        · have := (h.own m' c p2).1; omega
        · rw [p2, q2]
    · obtain ⟨h1, d1, h2⟩ := h.hlt m b1 e
      refine ⟨h1, ?_⟩
      by_cases hm : m = n
      · subst hm; exact ⟨d', St.get_set_same _ _ _⟩
      · exact ⟨d1, by rw [hoth m hm]; exact h2⟩
  · have e : (if m = n then own c else E.own m c) := e
    by_cases hm : m = n
    · rw [if_pos hm] at e
      rw [hm]; exact (hown c e).2
    · rw [if_neg hm] at e; exact .inl e
  · by_cases hm : m = n
    · subst hm; exact ⟨d', St.get_set_same _ _ _⟩
    · exact ⟨d1, by rw [hoth m hm]; exact e⟩
theorem Step.of_one {E1 : Env} {s1 : St} {w' : World} (h : Rel E s w) {n : Nat} {d d' : Hid} {b : Nat} (hd : s.get n = some (.hid d)) (hb : E.hb n = some b) (k : Step (E.one n w) (St.one d) w E1 s1 w')
    (hd' : s1.get 0 = some (.hid d')) : Step E s w (E.re n (E1.own 0)) (s.set n (.hid d')) w' := by
  refine Step.turned h hd hb (fun c hc ho => k.fr c hc (fun r base e => by cases e) (fun m e => ho e.2)) k.size k.os k.tape k.output (fun c hc => ⟨(k.rel.own 0 c hc).1, ?_⟩) fun w1 hw => ?_
  · rcases k.owns 0 c hc with h1 | h1
    · exact .inl h1.2
    · exact .inr h1
  · have h1 := k.rel.hid 0 d' b hd' (k.le.hb 0 b (show (if 0 = 0 then E.hb n else none) = some b by rw [if_pos rfl]; exact hb)) w1 hw
    rw [k.le.H] at h1
    exact h1
end
/-! ## Arguments -/
def convA (s : St) : AV → Option AV
  | .sl r off len es tight => match rowAt s r with
    | some o => match cutN (len * es) off o.vals with
      | some cs => bif Nat.blt 0 len && AV.plains cs then some (.lst cs len tight false) else none
      | none => none
    | none => none
  | a => bif a.plain then some a else none
section
variable {E : Env} {s : St} {w : World}
theorem convA_ok (h : Rel E s w) {E0 : Env} (hz : ∀ b o v, E.stay w b o = some v → E0.z b o = some v) {a x : AV} (hx : convA s a = some x) {v : Value} (hv : VR E a v) : VR E0 x v := by
  have plain : ∀ {a : AV} {v : Value}, VR E a v → a.plain = true → VR E0 a v := fun hv hp => VR.plain (fun b o u e => hz b o u (stay_z h e)) hv hp
  have other : ∀ {a : AV}, VR E a v → (bif a.plain then some a else none) = some x → VR E0 x v := fun {a} hv hx => by
    rcases Bool.eq_false_or_eq_true a.plain with hp | hp
    · rw [cond_of_true hp] at hx; cases hx; exact plain hv hp
    · rw [cond_of_false hp] at hx; cases hx
  cases hv with
  | sl hloc hle ht ha hsome =>
    rename_i r b base off len es cap tight a
    simp only [convA] at hx
    split at hx
    · rename_i o ho
      split at hx
      · rename_i cs hc
        rcases Bool.eq_false_or_eq_true (Nat.blt 0 len && AV.plains cs) with hb | hb
        · rw [cond_of_true hb] at hx
          cases hx
          rw [Bool.and_eq_true] at hb
          have hl0 : 0 < len := Nat.le_of_ble_eq_true hb.1
          obtain ⟨ho1, ho2⟩ := rowAt_eq ho
          obtain ⟨c, ty, fz, g1, g2, g3, g4⟩ := h.row r o b base ho1 hloc
          obtain ⟨_, vs, k1, k2⟩ := g4 ho2
          obtain ⟨e1, e2⟩ := takeN_eq hc
          have hcs : VRL E cs ((vs.drop off).take (len * es)) := by rw [e1]; exact (k1.drop off).take _
          obtain ⟨ea, _⟩ := ha (by omega)
          subst ea
          refine .lst (VRL.plain (fun b o u e => hz b o u (stay_z h e)) hcs hb.2) hle ht rfl (fun e => by cases e) fun _ => ⟨b, base + off, rfl, fun i u hu => hz _ _ _ ?_⟩
          rw [stay_at hloc, World.cell?, g1]
          rw [List.getElem?_take] at hu
          split at hu
          · rw [List.getElem?_drop] at hu
            have := k2 _ u hu
            simpa [Nat.add_assoc] using this
          · cases hu
        · rw [cond_of_false hb] at hx; cases hx
      · cases hx
    · cases hx
  | int k n => exact other (.int k n) hx
  | bool b => exact other (.bool b) hx
  | str s => exact other (.str s) hx
  | nilp => exact other .nilp hx
  | ptr off h1 => exact other (.ptr off h1) hx
  | ptrL off h1 h2 => exact other (.ptrL off h1 h2) hx
  | lst h1 h2 h3 h4 h5 h6 => exact other (.lst h1 h2 h3 h4 h5 h6) hx
  | mpn => exact other .mpn hx
  | mp h1 => exact other (.mp h1) hx
  | hp h1 => exact other (.hp h1) hx
  | fn h1 h2 => exact other (.fn h1 h2) hx
  | nilfn => exact other .nilfn hx
  | ifc h1 => exact other (.ifc h1) hx
  | nilifc => exact other .nilifc hx
  | agg h1 => exact other (.agg h1) hx
  | tup h1 => exact other (.tup h1) hx
  | lit v h1 => exact other (.lit v h1) hx
  | undef v => exact other (.undef v) hx
end
theorem GlobOk.one {E : Env} {s : St} {w : World} {G : Glob} (h : Rel E s w) (hp : GlobPlain G) (hG : GlobOk E G w) {E0 : Env} (hz : ∀ b o v, E.stay w b o = some v → E0.z b o = some v) (hH : E0.H = E.H) : GlobOk E0 G w := ⟨⟨fun g cs hg => by
  obtain ⟨vs, h1, h2⟩ := hG.1.1 g cs hg
  exact ⟨vs, VRL.plain (fun b o u e => hz b o u (stay_z h e)) h1 (hp g cs hg), fun i v hi => hz _ _ _ (stay_z h (h2 i v hi))⟩, fun g n hg => by
  obtain ⟨⟨v, hv⟩, h1⟩ := hG.1.2 g n hg
  exact ⟨⟨v, hz _ _ _ (stay_z h hv)⟩, h1⟩⟩, hH.trans hG.2⟩
end Go.Am
end
section
namespace Go.Am
mutual
theorem VR.reH {E : Env} {z : Nat → Nat → Option Value} {H : Hid → Nat → (Nat → Prop) → World → Prop} (hz : ∀ b o v, E.z b o = some v → z b o = some v) : ∀ {a : AV} {v : Value}, VR E a v → VR { E with z := z, H := H } a v
  | _, _, .int k n => .int k n
  | _, _, .bool b => .bool b
  | _, _, .str s => .str s
  | _, _, .nilp => .nilp
  | _, _, .ptr off h => .ptr off h
  | _, _, .ptrL off h k => .ptrL off (VRL.reH hz h) (fun i v e => hz _ _ _ (k i v e))
  | _, _, .sl h h1 h2 h3 h4 => .sl h h1 h2 h3 h4
  | _, _, .lst h h1 h2 h3 h4 k => .lst (VRL.reH hz h) h1 h2 h3 h4 (fun hv => let ⟨b, base, ea, hb⟩ := k hv; ⟨b, base, ea, fun i v e => hz _ _ _ (hb i v e)⟩)
  | _, _, .mpn => .mpn
  | _, _, .mp h => .mp h
  | _, _, .hp h => .hp h
  | _, _, .fn a b => .fn (VRL.reH hz a) (VRL.reH hz b)
  | _, _, .nilfn => .nilfn
  | _, _, .ifc h => .ifc (VR.reH hz h)
  | _, _, .nilifc => .nilifc
  | _, _, .agg h => .agg (VRL.reH hz h)
  | _, _, .tup h => .tup (VRL.reH hz h)
  | _, _, .lit v h => .lit v h
  | _, _, .undef v => .undef v
theorem VRL.reH {E : Env} {z : Nat → Nat → Option Value} {H : Hid → Nat → (Nat → Prop) → World → Prop} (hz : ∀ b o v, E.z b o = some v → z b o = some v) : ∀ {l : List AV} {r : List Value}, VRL E l r → VRL { E with z := z, H := H } l r
  | _, _, .nil => .nil
  | _, _, .cons h t => .cons (VR.reH hz h) (VRL.reH hz t)
end
section
variable {E : Env} {s : St} {w : World}
end
end Go.Am
end
section
namespace Go.Am
def blur (a : AV) : AV := bif a.plain then a else .undef
def blurL : List AV → List AV
  | [] => []
  | a :: l => blur a :: blurL l
def convR (s : St) : AV → Option AV
  | .ptr r off => match rowAt s r with
    | some o => some (.ptrL (blurL o.vals) off)
    | none => none
  | a => convA s a
def convRL (s : St) : List AV → Option (List AV)
  | [] => some []
  | a :: l => match convR s a with
    | some x => match convRL s l with | some q => some (x :: q) | none => none
    | none => none
theorem convR_other {s : St} {a : AV} (h : ∀ r off, a ≠ .ptr r off) : convR s a = convA s a := by
  unfold convR
  split
  · exact absurd rfl (h _ _)
  · rfl
noncomputable def Env.look (E : Env) (w : World) : Env := { Env.none with z := E.stay w, bsz := E.bsz, H := E.H }
section
variable {E : Env} {s : St} {w : World}
theorem Rel.look (h : Rel E s w) : Rel (E.look w) St.empty w where
  wf := .empty
  lt r b base e := by cases e
  obj r p e := by cases e
  z b o v e := stay_cell h e
  zap b o v r base _ e := by cases e
  row r o b base _ e := by cases e
  mapo r es b base _ e := by cases e
  iter r x n b base _ e := by cases e
  coh r1 r2 b b1 b2 e := by cases e
  b0 r o b base _ e := by cases e
  hid n d b _ e := by cases e
  own n c e := e.elim
  hlt n b e := by cases e
theorem Step.looked {E1 : Env} {s1 : St} {w' : World} (h0 : Rel E s w) (h : Step (E.look w) St.empty w E1 s1 w') : Step E s w E s w' := by
  have hfr : ∀ b, b < w.heap.size → w'.heap[b]? = w.heap[b]? := fun b hb => h.fr b hb (fun r base e => by cases e) (fun n e => e)
  refine ⟨.refl E, fun _ _ => rfl, fun r b base e => .inr ⟨r, base, e⟩, ?_, fun _ _ _ _ _ => rfl, Nat.le_refl _, fun b hb _ _ => hfr b hb, h.os, h.tape, h.output, h.size, fun _ _ e => .inl e, fun _ d e => ⟨d, e⟩, fun _ _ _ e => .inl e⟩
  refine ⟨h0.wf, fun r b base e => ⟨(h0.lt r b base e).1, Nat.lt_of_lt_of_le (h0.lt r b base e).2 h.size⟩, h0.obj, fun b o v e => h.rel.z b o v (h.le.z b o v (stay_z h0 e)), h0.zap, ?_, ?_, h0.iter, h0.coh, h0.b0,
    fun n d b e eb w1 hw => h0.hid n d b e eb w1 fun k hk => (hw k hk).trans (hfr k (h0.own n k hk).1), fun n k hk => ⟨Nat.lt_of_lt_of_le (h0.own n k hk).1 h.size, (h0.own n k hk).2⟩, h0.hlt⟩
  · intro r o b base e el
    rw [hfr b (h0.lt r b base el).2]
    exact h0.row r o b base e el
  · intro r es b base e el
    rw [hfr b (h0.lt r b base el).2]
    exact h0.mapo r es b base e el
theorem blurL_ok {E0 : Env} (hz : ∀ b o v, E.z b o = some v → E0.z b o = some v) : ∀ {l : List AV} {r : List Value}, VRL E l r → VRL E0 (blurL l) r
  | [], _, .nil => .nil
  | a :: _, _, .cons h t => by
    refine .cons ?_ (blurL_ok hz t)
    unfold blur
    rcases Bool.eq_false_or_eq_true a.plain with hp | hp
    · rw [cond_of_true hp]; exact VR.plain hz h hp
    · rw [cond_of_false hp]; exact .undef _
theorem convR_ok (h : Rel E s w) {E0 : Env} (hz : ∀ b o v, E.stay w b o = some v → E0.z b o = some v) {a x : AV} (hx : convR s a = some x) {v : Value} (hv : VR E a v) : VR E0 x v := by
  cases hv with
  | ptr off hloc =>
    rename_i r b base
    simp only [convR] at hx
    split at hx
    · rename_i o ho
      cases hx
      obtain ⟨ho1, ho2⟩ := rowAt_eq ho
      obtain ⟨c, ty, fz, g1, g2, g3, g4⟩ := h.row r o b base ho1 hloc
      obtain ⟨_, vs, k1, k2⟩ := g4 ho2
      refine .ptrL off (blurL_ok (fun b o u e => hz b o u (stay_z h e)) k1) fun i u hu => hz _ _ _ ?_
      rw [stay_at hloc, World.cell?, g1]
      exact k2 i u hu
    · cases hx
  | int k n => exact convA_ok h hz ((convR_other (by intro _ _ e; cases e)).symm.trans hx) (.int k n)
  | bool b => exact convA_ok h hz ((convR_other (by intro _ _ e; cases e)).symm.trans hx) (.bool b)
  | str s => exact convA_ok h hz ((convR_other (by intro _ _ e; cases e)).symm.trans hx) (.str s)
  | nilp => exact convA_ok h hz ((convR_other (by intro _ _ e; cases e)).symm.trans hx) .nilp
  | ptrL off h1 h2 => exact convA_ok h hz ((convR_other (by intro _ _ e; cases e)).symm.trans hx) (.ptrL off h1 h2)
  | sl h1 h2 h3 h4 h5 => exact convA_ok h hz ((convR_other (by intro _ _ e; cases e)).symm.trans hx) (.sl h1 h2 h3 h4 h5)
  | lst h1 h2 h3 h4 h5 h6 => exact convA_ok h hz ((convR_other (by intro _ _ e; cases e)).symm.trans hx) (.lst h1 h2 h3 h4 h5 h6)
  | mpn => exact convA_ok h hz ((convR_other (by intro _ _ e; cases e)).symm.trans hx) .mpn
  | mp h1 => exact convA_ok h hz ((convR_other (by intro _ _ e; cases e)).symm.trans hx) (.mp h1)
  | hp h1 => exact convA_ok h hz ((convR_other (by intro _ _ e; cases e)).symm.trans hx) (.hp h1)
  | fn h1 h2 => exact convA_ok h hz ((convR_other (by intro _ _ e; cases e)).symm.trans hx) (.fn h1 h2)
  | nilfn => exact convA_ok h hz ((convR_other (by intro _ _ e; cases e)).symm.trans hx) .nilfn
  | ifc h1 => exact convA_ok h hz ((convR_other (by intro _ _ e; cases e)).symm.trans hx) (.ifc h1)
  | nilifc => exact convA_ok h hz ((convR_other (by intro _ _ e; cases e)).symm.trans hx) .nilifc
  | agg h1 => exact convA_ok h hz ((convR_other (by intro _ _ e; cases e)).symm.trans hx) (.agg h1)
  | tup h1 => exact convA_ok h hz ((convR_other (by intro _ _ e; cases e)).symm.trans hx) (.tup h1)
  | lit v h1 => exact convA_ok h hz ((convR_other (by intro _ _ e; cases e)).symm.trans hx) (.lit v h1)
  | undef v => exact convA_ok h hz ((convR_other (by intro _ _ e; cases e)).symm.trans hx) (.undef v)
theorem convRL_ok (h : Rel E s w) {E0 : Env} (hz : ∀ b o v, E.stay w b o = some v → E0.z b o = some v) : ∀ {l q : List AV}, convRL s l = some q → ∀ {vs : List Value}, VRL E l vs → VRL E0 q vs
  | [], q, hq, vs, hv => by cases hq; cases hv; exact .nil
  | a :: l, q, hq, vs, hv => by
    cases hv with
    | cons h1 h2 =>
      simp only [convRL] at hq
      split at hq
      · rename_i x hx
        split at hq
        · rename_i q' hq'
          cases hq
          exact .cons (convR_ok h hz hx h1) (convRL_ok h hz hq' h2)
        · cases hq
      · cases hq
end
def readX (F : List AV → Option AV) : List AV → St → Res := fun args s =>
  match convRL s args with
  | some as => match F as with | some x => .ret x s | none => .fail
  | none => .fail
def ReadOk (P : Program) (G : Glob) (f : FuncId) (F : List AV → Option AV) : Prop :=
  ∀ (args : List AV) (s : St) (E : Env) (w : World) (vs : List Value), Rel E s w → GlobOk E G w → VRL E args vs → ResOk P E s w f vs (readX F args s)
/-! ## The beginning -/
end Go.Am
end
