/- Running with a continuation, and with slots that nobody reads any more forgotten at the heads of loops. -/
import Derived.Test.YtlibahklbbachaaGreatDoorAmExt
set_option autoImplicit false
namespace Go.Am

/-! ## Slots that are kept -/
def keepTr (t : T) : List Nat → Tr AV → Tr AV
  | [], tr => tr
  | i :: l, tr => keepTr t l (tr.setP (getT (pathOf i) t) (pathOf i))

/-- Only these slots are kept. -/
def keepT (l : Option (List Nat)) (t : T) : T :=
  match l with
  | some l => ⟨keepTr t l .nil, t.n, t.ds, t.rc⟩
  | none => t

def getTr (p : List Bool) (tr : Tr AV) : AV := match tr.getP p with | some v => v | none => .undef

theorem keepTr_get (t : T) (i : Nat) : ∀ (l : List Nat) (tr : Tr AV), (getTr (pathOf i) tr = getT (pathOf i) t ∨ getTr (pathOf i) tr = .undef) →
    (getTr (pathOf i) (keepTr t l tr) = getT (pathOf i) t ∨ getTr (pathOf i) (keepTr t l tr) = .undef)
  | [], tr, h => h
  | j :: l, tr, h => by
    refine keepTr_get t i l _ ?_
    unfold getTr
    by_cases hj : j = i
    · subst hj; rw [Tr.getP_setP_same]; exact .inl rfl
    · rw [Tr.getP_setP_ne _ _ _ _ (fun e => hj (pathOf_inj e))]; exact h

theorem keep_TR {E : Env} {t : T} {a : Act} (h : TR E t a) (l : Option (List Nat)) : TR E (keepT l t) a := by
  cases l with
  | none => exact h
  | some l =>
    refine ⟨h.size, fun i => ?_, h.ds⟩
    have : getT (pathOf i) (keepT (some l) t) = getTr (pathOf i) (keepTr t l .nil) := rfl
    rw [this]
    rcases keepTr_get t i l .nil (.inr (by unfold getTr; rw [Tr.getP_nil])) with h1 | h1
    · rw [h1]; exact h.val i
    · rw [h1]; exact .undef _

/-! ## Running with such loops -/
abbrev Live := Nat → Option (List Nat)

def loopD (kp : Option (List Nat)) (body : K) : Nat → K
  | 0 => fun _ _ => .fail
  | n + 1 => fun t s => match body t s with
    | .mk o t s => match o with | .normal => loopD kp body n (keepT kp t) s | o => .mk o t s
    | .fail => .fail

section
variable (P : Program) (G : Glob) (callF : CF) (D : Live)

def execD (n : Nat) : Code → Nat → K
  | .skip, _ => doneC
  | .region _ ops draw, _ => regionC P G callF ops draw
  | .seq a b, i => thenC (execD n a i) (execD n b i)
  | .cond c a b, i => condC (evC G c) (execD n a i) (execD n b i)
  | .block id c, _ => blockC id (execD n c id)
  | .loop c, i => fun t s => loopD (D i) (execD n c i) n (keepT (D i) t) s
  | .exit id, _ => fun t s => .mk (.exit id) t s
  | .ret, _ => fun t s => .mk .ret t s
  | .label _, _ => doneC
  | _, _ => fun _ _ => .fail

def bodyD (n : Nat) (fn : Option Func) : List AV → St → Res :=
  match fn with
  | some fn => match fn.body with
    | some body =>
      let k := execD P G callF D n body 0
      let rs := fn.results.toList
      fun args s => bif Nat.ble args.length fn.ntmps then finC P rs (callD P G callF n) (k ⟨setArgs args 0 .nil, fn.ntmps, [], .no⟩ s) else .fail
    | none => fun _ _ => .fail
  | none => fun _ _ => .fail
end

section
variable {P : Program} {G : Glob} {callF : CF} {D : Live}

theorem loopD_sound {x : K} {c : Code} (hx : Sound P G x c) {kp : Option (List Nat)} : ∀ (n : Nat) {Q : Exit → Act → World → Prop} {t t' : T} {s s' : St} {o : Out} {a : Act} {w : World} {E : Env}, Rel E s w → GlobOk E G → TR E t a →
    loopD kp x n t s = .mk o t' s' → (∀ e a' w' E', Step E s w E' s' w' → TR E' t' a' → OutR E' o e → Q e a' w') → Code.rounds P c Q n a w
  | 0, Q, t, t', s, s', o, a, w, E, _, _, _, hr, _ => by cases hr
  | n + 1, Q, t, t', s, s', o, a, w, E, h, hG, ht, hr, hQ => by
    simp only [loopD] at hr
    rw [rounds_succ]
    split at hr
    · rename_i o1 t1 s1 e1
      refine hx.go h hG ht e1 fun e a1 w1 E1 hs1 ht1 ho1 => ?_
      split at hr
      · rw [ho1.normal]
        exact loopD_sound hx n hs1.rel (hG.mono hs1.le) (keep_TR ht1 kp) hr fun e2 a2 w2 E2 hs2 ht2 ho2 => hQ e2 a2 w2 E2 (hs1.trans hs2) ht2 ho2
      · rename_i hne
        cases hr
        exact then_ne (ho1.ne hne) (hQ e a1 w1 E1 hs1 ht1 ho1)
    · cases hr

theorem execD_ok (hm : P.follows .mixedOrders = true) (hc : CFok P G callF) (n : Nat) : ∀ (c : Code) (i : Nat), Sound P G (execD P G callF D n c i) c
  | .skip, _ => exec_ok hm hc n .skip
  | .label l, _ => exec_ok hm hc n (.label l)
  | .region id ops draw, _ => exec_ok hm hc n (.region id ops draw)
  | .seq x y, i => then_sound (execD_ok hm hc n x i) (execD_ok hm hc n y i)
  | .cond c x y, i => by
    refine ⟨?_⟩
    intro Q t t' s s' o a w E h hG ht hr hQ
    have hx := execD_ok hm hc n x i
    have hy := execD_ok hm hc n y i
    have hev := evC_ok hG ht c
    simp only [execD, condC] at hr
    split at hr
    · rename_i u e
      rw [e] at hev
      generalize hv : a.eval c = v at hev
      cases hev
      refine wp_cond hv ?_
      cases u with
      | true => exact hx.go h hG ht hr hQ
      | false => exact hy.go h hG ht hr hQ
    · cases hr
  | .block id c, _ => block_sound (execD_ok hm hc n c id)
  | .loop c, i => by
    refine ⟨?_⟩
    intro Q t t' s s' o a w E h hG ht hr hQ
    exact wp_loop_rounds n (loopD_sound (execD_ok hm hc n c i) n h hG (keep_TR ht _) hr hQ)
  | .exit id, _ => exec_ok hm hc n (.exit id)
  | .ret, _ => exec_ok hm hc n .ret
  | .rangeFunc _ _ _ _, _ => by refine ⟨?_⟩; intro Q t t' s s' o a w E h hG ht hr hQ; cases hr
  | .scope _, _ => by refine ⟨?_⟩; intro Q t t' s s' o a w E h hG ht hr hQ; cases hr
  | .goto _, _ => by refine ⟨?_⟩; intro Q t t' s s' o a w E h hG ht hr hQ; cases hr
  | .refuse _, _ => by refine ⟨?_⟩; intro Q t t' s s' o a w E h hG ht hr hQ; cases hr

theorem bodyD_ok (hm : P.follows .mixedOrders = true) (hn : NoNG P) (hc : CFok P G callF) (n : Nat) (f : FuncId) (args : List AV) (s : St) (E : Env) (w : World) (vs : List Value) (h : Rel E s w) (hG : GlobOk E G) (ha : VRL E args vs) :
    ResOk P E s w f vs (bodyD P G callF D n P.funcs[f]? args s) := by
  generalize hr : bodyD P G callF D n P.funcs[f]? args s = r
  by_cases hfail : r = .fail
  · subst hfail; trivial
  unfold bodyD at hr
  cases hfn : P.funcs[f]? with
  | none => rw [hfn] at hr; exact absurd hr.symm hfail
  | some fn =>
    cases hb : fn.body with
    | none => simp only [hfn, hb] at hr; exact absurd hr.symm hfail
    | some c =>
      simp only [hfn, hb] at hr
      rcases Bool.eq_false_or_eq_true (Nat.ble args.length fn.ntmps) with hl | hl
      rotate_left
      · rw [cond_of_false hl] at hr; exact absurd hr.symm hfail
      rw [cond_of_true hl] at hr
      have hle := Nat.le_of_ble_eq_true hl
      have hent : Enters P f := ⟨fn, hfn, by rw [hb]; rfl, hn f fn hfn⟩
      have main : ∀ (R : Ending → World → Prop), (∀ x s', r = .ret x s' → ∀ v w' E', Step E s w E' s' w' → VR E' x v → R (.returned v) w') →
          (∀ x s', r = .panic x s' → ∀ v w' E', Step E s w E' s' w' → VR E' x v → R (.panicked [{ v := v, recovered := false }]) w') → Calls P f ⟨vs⟩ w R := by
        intro R h1 h2
        refine calls_of_wp_defers hfn hb ?_
        unfold finC at hr
        split at hr
        · rename_i o t s1 e1
          refine (execD_ok hm hc n c 0).go h hG (enter_TR ha hle) e1 fun e a' w' E' hs hta ho => ?_
          split at hr
          · rw [ho.normal]
            exact endC_ok hm hn hc (o := .ret) (u := .returning) hs (hG.mono hs.le) hta rfl hr hfail h1 h2
          · have : e = .ret := by cases e <;> first | rfl | cases ho
            subst this
            exact endC_ok hm hn hc (o := .ret) (u := .returning) hs (hG.mono hs.le) hta rfl hr hfail h1 h2
          · cases e with
            | panic ch =>
              obtain ⟨v, hv, hvr⟩ := ho
              subst hv
              rename_i x2
              exact endC_ok hm hn hc (o := .panic x2) (u := .panicking [{ v := v, recovered := false }]) hs (hG.mono hs.le) hta ⟨v, rfl, hvr⟩ hr hfail h1 h2
            | _ => cases ho
          · exact absurd hr.symm hfail
        · exact absurd hr.symm hfail
      cases r with
      | fail => trivial
      | ret x s' =>
        refine .inl ⟨hent, main _ (fun x2 s2 e v w' E' hs hv => ?_) (fun x2 s2 e => by cases e)⟩
        cases e
        exact ⟨v, E', rfl, hs, hv⟩
      | panic x s' =>
        refine ⟨hent, main _ (fun x2 s2 e => by cases e) (fun x2 s2 e v w' E' hs hv => ?_)⟩
        cases e
        exact ⟨v, E', rfl, hs, hv⟩
end

/-! ## The same with a continuation -/
abbrev KA (α : Type) := Out → T → St → α

def goK {α : Type} (z : α) (k : KA α) (e : Ex) : α := match e with | .mk o t s => k o t s | .fail => z

/-- What both ways come to, where a test is not known; and what one comes to, where it is. -/
def bothK {α : Type} (br : Bool → α → α → α) (u : Bool) (f : Bool → α) : α := br u (f true) (f false)

/-- Both ways are gone, where a slot says which; and the slot says it from then on. -/
def decideK {α : Type} (br : Bool → α → α → α) : List Nat → (T → St → α) → T → St → α
  | [], k => k
  | d :: l, k => let p := pathOf d; fun t s => match t.tr.getP p with
    | some (.bool u) => bothK br u (fun v => decideK br l k { t with tr := t.tr.setP (.bool v) p } s)
    | _ => decideK br l k t s

theorem Tr.setP_self {α : Type} {x : α} : ∀ {p : List Bool} {t : Tr α}, t.getP p = some x → t.setP x p = t
  | [], .nil, h => by cases h
  | [], .node v l r, h => by simp only [Tr.getP] at h; subst h; rfl
  | b :: p, .nil, h => by cases h
  | true :: p, .node v l r, h => by simp only [Tr.getP, cond_true] at h; simp only [Tr.setP, cond_true]; rw [Tr.setP_self h]
  | false :: p, .node v l r, h => by simp only [Tr.getP, cond_false] at h; simp only [Tr.setP, cond_false]; rw [Tr.setP_self h]

theorem decideK_eq {α β : Type} {br : Bool → α → α → α} {h : α → β} (hb : ∀ u a b, h (br u a b) = bif u then h a else h b) (k : T → St → α) : ∀ (l : List Nat) (t : T) (s : St), h (decideK br l k t s) = h (k t s)
  | [], _, _ => rfl
  | d :: l, t, s => by
    simp only [decideK]
    split
    · rename_i u e
      unfold bothK
      rw [hb]
      cases u <;> simp only [cond_true, cond_false] <;> rw [decideK_eq hb k l, Tr.setP_self e]
    · exact decideK_eq hb k l t s

/-- the slots of tests that an operation hangs on -/
def slotsOf (ops : Array Oper) (o : Oper) : List Nat :=
  (match o.guard with
  | some (j, _) => match (ops[j]?).bind (·.dst) with | some d => [d] | none => []
  | none => []) ++ (match o.op with
  | .pick (.tmp i) _ _ => [i]
  | .unOp _ _ (.tmp i) => [i]
  | .binOp _ _ (.tmp i) (.tmp j) _ => [i, j]
  | .binOp _ _ (.tmp i) _ _ => [i]
  | .binOp _ _ _ (.tmp j) _ => [j]
  | _ => [])

def itemsK {α : Type} (P : Program) (G : Glob) (callF : CF) (ops : Array Oper) (br : Bool → α → α → α) (z : α) : List Item → KA α → T → St → α
  | [], k => fun t s => k .normal t s
  | it :: l, k => decideK br (slotsOf ops it.p.o) fun t s => match itemC P G callF ops it t s with
    | .mk o t s => match o with | .normal => itemsK P G callF ops br z l k t s | o => k o t s
    | .fail => z

def regionK {α : Type} (P : Program) (G : Glob) (callF : CF) (ops : Array Oper) (br : Bool → α → α → α) (z : α) (draw : Bool) : KA α → T → St → α :=
  bif draw then match planOf P ops with | some l => itemsK P G callF ops br z l | none => fun _ _ _ => z
  else itemsK P G callF ops br z (plainItems ops)

section
variable {α β : Type} {P : Program} {G : Glob} {callF : CF} {ops : Array Oper} {br : Bool → α → α → α} {z : α} {h : α → β}
theorem itemsK_eq (hb : ∀ u a b, h (br u a b) = bif u then h a else h b) (k : KA α) : ∀ (l : List Item) (t : T) (s : St), h (itemsK P G callF ops br z l k t s) = goK (h z) (fun o t s => h (k o t s)) (itemsC P G callF ops l t s)
  | [], _, _ => rfl
  | it :: l, t, s => by
    simp only [itemsK, itemsC, thenC]
    rw [decideK_eq hb]
    cases itemC P G callF ops it t s with
    | fail => rfl
    | mk o t1 s1 =>
      cases o with
      | normal => exact itemsK_eq hb k l t1 s1
      | _ => rfl

theorem regionK_eq (hb : ∀ u a b, h (br u a b) = bif u then h a else h b) {draw : Bool} (k : KA α) (t : T) (s : St) : h (regionK P G callF ops br z draw k t s) = goK (h z) (fun o t s => h (k o t s)) (regionC P G callF ops draw t s) := by
  unfold regionK regionC
  cases draw with
  | false => exact itemsK_eq hb k _ t s
  | true =>
    simp only [cond_true]
    cases planOf P ops with
    | none => rfl
    | some l => exact itemsK_eq hb k l t s
end

def loopK {α : Type} (z : α) (kp : Option (List Nat)) (body : KA α → T → St → α) (k : KA α) : Nat → T → St → α
  | 0 => fun _ _ => z
  | n + 1 => fun t s => body (fun o t s => match o with | .normal => loopK z kp body k n (keepT kp t) s | o => k o t s) t s

section
variable (P : Program) (G : Glob) (callF : CF) (D : Live)

def execK {α : Type} (br : Bool → α → α → α) (z : α) (n : Nat) : Code → Nat → KA α → T → St → α
  | .skip, _, k => fun t s => k .normal t s
  | .region _ ops draw, _, k => regionK P G callF ops br z draw k
  | .seq a b, i, k => execK br z n a i fun o t s => match o with | .normal => execK br z n b i k t s | o => k o t s
  | .cond c a b, i, k => decideK br (match c with | .tmp d => [d] | _ => []) fun t s => match evC G c t with | .bool u => bif u then execK br z n a i k t s else execK br z n b i k t s | _ => z
  | .block id c, _, k => execK br z n c id fun o t s => match o with | .exit j => bif j.beq id then k .normal t s else k (.exit j) t s | o => k o t s
  | .loop c, i, k => fun t s => loopK z (D i) (execK br z n c i) k n (keepT (D i) t) s
  | .exit id, _, k => fun t s => k (.exit id) t s
  | .ret, _, k => fun t s => k .ret t s
  | .label _, _, k => fun t s => k .normal t s
  | _, _, _ => fun _ _ => z

def bodyK {α : Type} (br : Bool → α → α → α) (kr : Res → α) (n : Nat) (fn : Option Func) : List AV → St → α :=
  match fn with
  | some fn => match fn.body with
    | some body => fun args s => bif Nat.ble args.length fn.ntmps then
        execK P G callF D br (kr .fail) n body 0 (fun o t s => kr (finC P fn.results.toList (callD P G callF n) (.mk o t s))) ⟨setArgs args 0 .nil, fn.ntmps, [], .no⟩ s
      else kr .fail
    | none => fun _ _ => kr .fail
  | none => fun _ _ => kr .fail
end

section
variable {P : Program} {G : Glob} {callF : CF} {D : Live} {α β : Type} {br : Bool → α → α → α} {z : α} {h : α → β} {n : Nat}

theorem loopK_eq {kp : Option (List Nat)} {b : KA α → T → St → α} {d : K} (hd : ∀ k t s, h (b k t s) = goK (h z) (fun o t s => h (k o t s)) (d t s)) (k : KA α) : ∀ n t s, h (loopK z kp b k n t s) = goK (h z) (fun o t s => h (k o t s)) (loopD kp d n t s)
  | 0, _, _ => rfl
  | n + 1, t, s => by
    simp only [loopK, loopD, hd]
    cases d t s with
    | fail => rfl
    | mk o t1 s1 =>
      cases o with
      | normal => simp only [goK]; exact loopK_eq hd k n _ _
      | _ => rfl

theorem execK_eq (hb : ∀ u a b, h (br u a b) = bif u then h a else h b) : ∀ (c : Code) (i : Nat) (k : KA α) (t : T) (s : St), h (execK P G callF D br z n c i k t s) = goK (h z) (fun o t s => h (k o t s)) (execD P G callF D n c i t s)
  | .skip, _, _, _, _ => rfl
  | .region _ ops draw, _, k, t, s => regionK_eq hb k t s
  | .seq a b, i, k, t, s => by
    simp only [execK, execD, thenC]
    rw [execK_eq hb a]
    cases execD P G callF D n a i t s with
    | fail => rfl
    | mk o t1 s1 =>
      cases o with
      | normal => simp only [goK]; exact execK_eq hb b i k t1 s1
      | _ => rfl
  | .cond c a b, i, k, t, s => by
    simp only [execK, execD, condC]
    rw [decideK_eq hb]
    cases evC G c t with
    | bool u => cases u <;> simp only [cond_true, cond_false] <;> first | exact execK_eq hb a i k t s | exact execK_eq hb b i k t s
    | _ => rfl
  | .block id c, _, k, t, s => by
    simp only [execK, execD, blockC]
    rw [execK_eq hb c]
    cases execD P G callF D n c id t s with
    | fail => rfl
    | mk o t1 s1 =>
      cases o with
      | exit j => simp only [goK]; cases j.beq id <;> rfl
      | _ => rfl
  | .loop c, i, k, t, s => by
    simp only [execK, execD]
    exact loopK_eq (fun k t s => execK_eq hb c i k t s) k n _ _
  | .exit _, _, _, _, _ => rfl
  | .ret, _, _, _, _ => rfl
  | .label _, _, _, _, _ => rfl
  | .rangeFunc _ _ _ _, _, _, _, _ => rfl
  | .scope _, _, _, _, _ => rfl
  | .goto _, _, _, _, _ => rfl
  | .refuse _, _, _, _, _ => rfl

theorem bodyK_eq (hb : ∀ u a b, h (br u a b) = bif u then h a else h b) (kr : Res → α) (fn : Option Func) (args : List AV) (s : St) : h (bodyK P G callF D br kr n fn args s) = h (kr (bodyD P G callF D n fn args s)) := by
  unfold bodyK bodyD
  cases fn with
  | none => rfl
  | some fn =>
    simp only
    cases hbd : fn.body with
    | none => rfl
    | some body =>
      simp only
      cases Nat.ble args.length fn.ntmps with
      | false => rfl
      | true =>
        simp only [cond_true]
        rw [execK_eq hb]
        cases execD P G callF D n body 0 ⟨setArgs args 0 .nil, fn.ntmps, [], .no⟩ s <;> rfl
end

/-- one of two, by a test -/
abbrev byB {α : Type} (u : Bool) (a b : α) : α := match u with | true => a | false => b
theorem byB_cond {α : Type} (u : Bool) (a b : α) : id (byB u a b) = bif u then id a else id b := by cases u <;> rfl

/-! ## What is run from nothing -/
mutual
/-- it leads nowhere -/
def AV.flat : AV → Bool
  | .ptr _ _ | .sl _ _ _ _ _ | .mp (some _) | .ptrL _ _ | .lst (_ :: _) _ _ _ => false
  | .agg l | .tup l => AV.flats l
  | .fn _ a b => AV.flats a && AV.flats b
  | .ifc _ v => AV.flat v
  | _ => true
def AV.flats : List AV → Bool
  | [] => true
  | a :: l => AV.flat a && AV.flats l
end

mutual
theorem VR.flat {E E1 : Env} : ∀ {a : AV} {v : Value}, VR E1 a v → a.flat = true → VR E a v
  | _, _, .int k n, _ => .int k n
  | _, _, .bool b, _ => .bool b
  | _, _, .str s, _ => .str s
  | _, _, .nilp, _ => .nilp
  | _, _, .ptr _ _, p => by simp [AV.flat] at p
  | _, _, .ptrL _ _ _, p => by simp [AV.flat] at p
  | _, _, .sl _ _ _ _, p => by simp [AV.flat] at p
  | _, _, .lst .nil hl ht hn hc _, _ => .lst .nil hl ht hn hc (fun h => absurd rfl h)
  | _, _, .lst (.cons _ _) _ _ _ _ _, p => by simp [AV.flat] at p
  | _, _, .mpn, _ => .mpn
  | _, _, .mp _, p => by simp [AV.flat] at p
  | _, _, .fn a b, p => by
    simp [AV.flat] at p
    exact .fn (VRL.flat a p.1) (VRL.flat b p.2)
  | _, _, .nilfn, _ => .nilfn
  | _, _, .ifc h, p => .ifc (VR.flat h (by simpa [AV.flat] using p))
  | _, _, .nilifc, _ => .nilifc
  | _, _, .agg h, p => .agg (VRL.flat h (by simpa [AV.flat] using p))
  | _, _, .tup h, p => .tup (VRL.flat h (by simpa [AV.flat] using p))
  | _, _, .undef v, _ => .undef v
theorem VRL.flat {E E1 : Env} : ∀ {l : List AV} {r : List Value}, VRL E1 l r → AV.flats l = true → VRL E l r
  | _, _, .nil, _ => .nil
  | _, _, .cons h t, p => by
    simp [AV.flats] at p
    exact .cons (VR.flat h p.1) (VRL.flat t p.2)
end

def Env.none : Env := ⟨fun _ => .none, fun _ _ => .none, fun _ => 0⟩

/-- Nothing is numbered. -/
def Env.bare (E : Env) : Env := Env.none.cut E

theorem Wf.empty : Wf St.empty where
  fresh r _ := St.get_empty r
  root r o e := by rw [St.get_empty] at e; cases e
  solo r o e := by rw [St.get_empty] at e; cases e

theorem Rel.bare {E : Env} {s : St} {w : World} (h : Rel E s w) : Rel E.bare St.empty w where
  wf := .empty
  lt r b base e := by cases e
  obj r p e := by cases e
  z := h.z
  zap b o v r base _ e := by cases e
  row r o b base _ e := by cases e
  mapo r es b base _ e := by cases e
  iter r x n b base _ e := by cases e
  coh r1 r2 b b1 b2 e := by cases e
  b0 r o b base _ e := by cases e

/-- What was run from nothing left all alone. -/
theorem Step.alone {E E1 : Env} {s s1 : St} {w w' : World} (h0 : Rel E s w) (h : Step E.bare St.empty w E1 s1 w') : Step E s w E s w' := by
  have hfr : ∀ b, b < w.heap.size → w'.heap[b]? = w.heap[b]? := fun b hb => h.fr b hb fun r base e => by cases e
  refine ⟨.refl E, fun _ _ => rfl, fun r b base e => .inr ⟨r, base, e⟩, ?_, fun _ _ _ _ => rfl, Nat.le_refl _, fun b hb _ => hfr b hb, h.os, h.tape, h.output, h.size⟩
  refine ⟨h0.wf, fun r b base e => ⟨(h0.lt r b base e).1, Nat.lt_of_lt_of_le (h0.lt r b base e).2 h.size⟩, h0.obj, fun b o v e => h.rel.z b o v (h.le.z b o v e), h0.zap, ?_, ?_, h0.iter, h0.coh, h0.b0⟩
  · intro r o b base e el
    rw [hfr b (h0.lt r b base el).2]
    exact h0.row r o b base e el
  · intro r es b base e el
    rw [hfr b (h0.lt r b base el).2]
    exact h0.mapo r es b base e el

/-- The globals' cells lead to nothing that is numbered. -/
def GlobPlain (G : Glob) : Prop := ∀ g cs, G g = some cs → AV.plains cs = true

theorem GlobOk.bare {E : Env} {G : Glob} (hp : GlobPlain G) (h : GlobOk E G) : GlobOk E.bare G := fun g cs hg => by
  obtain ⟨vs, h1, h2⟩ := h g cs hg
  exact ⟨vs, VRL.plain h1 (hp g cs hg), h2⟩

def Res.val? : Res → Option AV
  | .ret v _ => some v
  | _ => none

/-- A function of values that lead to nothing that is numbered, run from nothing. -/
theorem flat_known {P : Program} {G : Glob} (hm : P.follows .mixedOrders = true) (hn : NoNG P) (hp : GlobPlain G) {X : Known} (hX : KnownOk P G X) {D : Live} {m loops n : Nat} {f : FuncId} {F : List AV → Option AV}
    (hF : ∀ args x, F args = some x → AV.plains args = true ∧ x.flat = true ∧ bodyK P G (callN P G X loops n) D byB Res.val? m P.funcs[f]? args St.empty = some x) :
    ∀ (args : List AV) (s : St) (E : Env) (w : World) (vs : List Value), Rel E s w → GlobOk E G → VRL E args vs → ResOk P E s w f vs (pureX F args s) := by
  intro args s E w vs h hG ha
  unfold pureX
  cases hx : F args with
  | none => trivial
  | some x =>
    obtain ⟨h1, h2, h3⟩ := hF args x hx
    have h3 := (bodyK_eq (D := D) byB_cond Res.val? _ _ _).symm.trans h3
    simp only [id] at h3
    have := bodyD_ok (D := D) hm hn (callN_ok hm hn hX loops n) m f args St.empty E.bare w vs h.bare (hG.bare hp) (VRL.plain ha h1)
    cases hb : bodyD P G (callN P G X loops n) D m P.funcs[f]? args St.empty with
    | ret y s1 =>
      rw [hb] at h3 this
      simp only [Res.val?, Option.some.injEq] at h3
      subst h3
      rcases this with ⟨h4, h5⟩ | ⟨v', w', E', h4, h5, h6⟩
      · exact .inl ⟨h4, Calls.mono h5 fun e w' ⟨v', E', he, hs, hv⟩ => ⟨v', E, he, .alone h hs, hv.flat h2⟩⟩
      · exact .inr ⟨v', w', E, h4, .alone h h5, h6.flat h2⟩
    | _ => rw [hb] at h3; cases h3

theorem returns_of_K {P : Program} {G : Glob} (hm : P.follows .mixedOrders = true) (hn : NoNG P) {X : Known} (hX : KnownOk P G X) {D : Live} {m loops n : Nat} {f : FuncId} {args : List AV} {s : St} {E : Env} {w : World} {vs : List Value} {x : AV}
    (h : Rel E s w) (hG : GlobOk E G) (ha : VRL E args vs) (hr : bodyK P G (callN P G X loops n) D byB Res.val? m P.funcs[f]? args s = some x) (hb : ∀ fn, P.funcs[f]? = some fn → fn.body.isSome = true) :
    Calls P f ⟨vs⟩ w fun e w' => ∃ v' E' s', e = .returned v' ∧ Step E s w E' s' w' ∧ VR E' x v' := by
  have hr := (bodyK_eq (D := D) byB_cond Res.val? _ _ _).symm.trans hr
  simp only [id] at hr
  have := bodyD_ok (D := D) hm hn (callN_ok hm hn hX loops n) m f args s E w vs h hG ha
  cases hb' : bodyD P G (callN P G X loops n) D m P.funcs[f]? args s with
  | ret y s1 =>
    rw [hb'] at hr this
    simp only [Res.val?, Option.some.injEq] at hr
    subst hr
    rcases this with ⟨_, h2⟩ | ⟨v', w', E', h1, _, _⟩
    · exact Calls.mono h2 fun e w' ⟨v', E', he, hs, hv⟩ => ⟨v', E', s1, he, hs, hv⟩
    · cases hf : P.funcs[f]? with
      | none => rw [hf] at hb'; simp [bodyD] at hb'
      | some fn =>
        have h4 := run_callFunc ⟨fn, hf, hb fn hf, hn f fn hf⟩ ⟨vs⟩ w
        rw [h4] at h1
        cases h1
  | _ => rw [hb'] at hr; cases hr
end Go.Am
