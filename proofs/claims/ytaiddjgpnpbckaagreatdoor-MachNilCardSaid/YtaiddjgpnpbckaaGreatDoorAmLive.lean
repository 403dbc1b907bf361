/- Running with a continuation, and with slots that nobody reads any more forgotten at the heads of loops. -/
import Derived.Test.YtaiddjgpnpbckaaGreatDoorAmExt
set_option autoImplicit false
namespace Go.Am

/-! ## Slots that are kept -/
def keepTr (t : T) : List Nat → Tr AV → Tr AV
  | [], tr => tr
  | i :: l, tr => keepTr t l (tr.setP (getT (pathOf i) t) (pathOf i))

/-- Only these slots are kept. -/
def keepT (l : Option (List Nat)) (t : T) : T :=
  match l with
  | some l => ⟨keepTr t l .nil, t.n, t.ds, t.rc⟩
  | none => t

def getTr (p : List Bool) (tr : Tr AV) : AV := match tr.getP p with | some v => v | none => .undef

theorem keepTr_get (t : T) (i : Nat) : ∀ (l : List Nat) (tr : Tr AV), (getTr (pathOf i) tr = getT (pathOf i) t ∨ getTr (pathOf i) tr = .undef) →
    (getTr (pathOf i) (keepTr t l tr) = getT (pathOf i) t ∨ getTr (pathOf i) (keepTr t l tr) = .undef)
  | [], tr, h => h
  | j :: l, tr, h => by
    refine keepTr_get t i l _ ?_
    unfold getTr
    by_cases hj : j = i
    · subst hj; rw [Tr.getP_setP_same]; exact .inl rfl
    · rw [Tr.getP_setP_ne _ _ _ _ (fun e => hj (pathOf_inj e))]; exact h

theorem keep_TR {E : Env} {t : T} {a : Act} (h : TR E t a) (l : Option (List Nat)) : TR E (keepT l t) a := by
  cases l with
  | none => exact h
  | some l =>
    refine ⟨h.size, fun i => ?_, h.ds⟩
    have : getT (pathOf i) (keepT (some l) t) = getTr (pathOf i) (keepTr t l .nil) := rfl
    rw [this]
    rcases keepTr_get t i l .nil (.inr (by unfold getTr; rw [Tr.getP_nil])) with h1 | h1
    · rw [h1]; exact h.val i
    · rw [h1]; exact .undef _

/-! ## Running with such loops -/
abbrev Live := Nat → Option (List Nat)

def loopD (kp : Option (List Nat)) (body : K) : Nat → K
  | 0 => fun _ _ => .fail
  | n + 1 => fun t s => match body t s with
    | .mk o t s => match o with | .normal => loopD kp body n (keepT kp t) s | o => .mk o t s
    | .fail => .fail

section
variable (P : Program) (G : Glob) (callF : CF) (D : Live)

def execD (n : Nat) : Code → Nat → K
  | .skip, _ => doneC
  | .region _ ops draw, _ => regionC P G callF ops draw
  | .seq a b, i => thenC (execD n a i) (execD n b i)
  | .cond c a b, i => condC (evC G c) (execD n a i) (execD n b i)
  | .block id c, _ => blockC id (execD n c id)
  | .loop c, i => fun t s => loopD (D i) (execD n c i) n (keepT (D i) t) s
  | .exit id, _ => fun t s => .mk (.exit id) t s
  | .ret, _ => fun t s => .mk .ret t s
  | .label _, _ => doneC
  | _, _ => fun _ _ => .fail

def bodyD (n : Nat) (fn : Option Func) : List AV → St → Res :=
  match fn with
  | some fn => match fn.body with
    | some body =>
      let k := execD P G callF D n body 0
      let rs := fn.results.toList
      fun args s => bif Nat.ble args.length fn.ntmps then finC P rs (callB P G callF n) (k ⟨setArgs args 0 .nil, fn.ntmps, [], .no⟩ s) else .fail
    | none => fun _ _ => .fail
  | none => fun _ _ => .fail
end

section
variable {P : Program} {G : Glob} {callF : CF} {D : Live}

theorem loopD_sound {x : K} {c : Code} (hx : Sound P G x c) {kp : Option (List Nat)} : ∀ (n : Nat) {Q : Exit → Act → World → Prop} {t t' : T} {s s' : St} {o : Out} {a : Act} {w : World} {E : Env}, Rel E s w → GlobOk E G → TR E t a →
    loopD kp x n t s = .mk o t' s' → (∀ e a' w' E', Step E s w E' s' w' → TR E' t' a' → OutR E' o e → Q e a' w') → Code.rounds P c Q n a w
  | 0, Q, t, t', s, s', o, a, w, E, _, _, _, hr, _ => by cases hr
  | n + 1, Q, t, t', s, s', o, a, w, E, h, hG, ht, hr, hQ => by
    simp only [loopD] at hr
    rw [rounds_succ]
    split at hr
    · rename_i o1 t1 s1 e1
      refine hx.go h hG ht e1 fun e a1 w1 E1 hs1 ht1 ho1 => ?_
      split at hr
      · rw [ho1.normal]
        exact loopD_sound hx n hs1.rel (hG.mono hs1.le) (keep_TR ht1 kp) hr fun e2 a2 w2 E2 hs2 ht2 ho2 => hQ e2 a2 w2 E2 (hs1.trans hs2) ht2 ho2
      · rename_i hne
        cases hr
        exact then_ne (ho1.ne hne) (hQ e a1 w1 E1 hs1 ht1 ho1)
    · cases hr

theorem execD_ok (hm : P.follows .mixedOrders = true) (hc : CFok P G callF) (n : Nat) : ∀ (c : Code) (i : Nat), Sound P G (execD P G callF D n c i) c
  | .skip, _ => exec_ok hm hc n .skip
  | .label l, _ => exec_ok hm hc n (.label l)
  | .region id ops draw, _ => exec_ok hm hc n (.region id ops draw)
  | .seq x y, i => then_sound (execD_ok hm hc n x i) (execD_ok hm hc n y i)
  | .cond c x y, i => by
    refine ⟨?_⟩
    intro Q t t' s s' o a w E h hG ht hr hQ
    have hx := execD_ok hm hc n x i
    have hy := execD_ok hm hc n y i
    have hev := evC_ok hG ht c
    simp only [execD, condC] at hr
    split at hr
    · rename_i u e
      rw [e] at hev
      generalize hv : a.eval c = v at hev
      cases hev
      refine wp_cond hv ?_
      cases u with
      | true => exact hx.go h hG ht hr hQ
      | false => exact hy.go h hG ht hr hQ
    · cases hr
  | .block id c, _ => block_sound (execD_ok hm hc n c id)
  | .loop c, i => by
    refine ⟨?_⟩
    intro Q t t' s s' o a w E h hG ht hr hQ
    exact wp_loop_rounds n (loopD_sound (execD_ok hm hc n c i) n h hG (keep_TR ht _) hr hQ)
  | .exit id, _ => exec_ok hm hc n (.exit id)
  | .ret, _ => exec_ok hm hc n .ret
  | .rangeFunc _ _ _ _, _ => by refine ⟨?_⟩; intro Q t t' s s' o a w E h hG ht hr hQ; cases hr
  | .scope _, _ => by refine ⟨?_⟩; intro Q t t' s s' o a w E h hG ht hr hQ; cases hr
  | .goto _, _ => by refine ⟨?_⟩; intro Q t t' s s' o a w E h hG ht hr hQ; cases hr
  | .refuse _, _ => by refine ⟨?_⟩; intro Q t t' s s' o a w E h hG ht hr hQ; cases hr

theorem bodyD_ok (hm : P.follows .mixedOrders = true) (hn : NoNG P) (hc : CFok P G callF) (n : Nat) (f : FuncId) (args : List AV) (s : St) (E : Env) (w : World) (vs : List Value) (h : Rel E s w) (hG : GlobOk E G) (ha : VRL E args vs) :
    ResOk P E s w f vs (bodyD P G callF D n P.funcs[f]? args s) := by
  generalize hr : bodyD P G callF D n P.funcs[f]? args s = r
  by_cases hfail : r = .fail
  · subst hfail; trivial
  unfold bodyD at hr
  cases hfn : P.funcs[f]? with
  | none => rw [hfn] at hr; exact absurd hr.symm hfail
  | some fn =>
    cases hb : fn.body with
    | none => simp only [hfn, hb] at hr; exact absurd hr.symm hfail
    | some c =>
      simp only [hfn, hb] at hr
      rcases Bool.eq_false_or_eq_true (Nat.ble args.length fn.ntmps) with hl | hl
      rotate_left
      · rw [cond_of_false hl] at hr; exact absurd hr.symm hfail
      rw [cond_of_true hl] at hr
      have hle := Nat.le_of_ble_eq_true hl
      have hent : Enters P f := ⟨fn, hfn, by rw [hb]; rfl, hn f fn hfn⟩
      have main : ∀ (R : Ending → World → Prop), (∀ x s', r = .ret x s' → ∀ v w' E', Step E s w E' s' w' → VR E' x v → R (.returned v) w') →
          (∀ x s', r = .panic x s' → ∀ v w' E', Step E s w E' s' w' → VR E' x v → R (.panicked [{ v := v, recovered := false }]) w') → Calls P f ⟨vs⟩ w R := by
        intro R h1 h2
        refine calls_of_wp_defers hfn hb ?_
        unfold finC at hr
        split at hr
        · rename_i o t s1 e1
          refine (execD_ok hm hc n c 0).go h hG (enter_TR ha hle) e1 fun e a' w' E' hs hta ho => ?_
          split at hr
          · rw [ho.normal]
            exact endC_ok hm hn hc (o := .ret) (u := .returning) hs (hG.mono hs.le) hta rfl hr hfail h1 h2
          · have : e = .ret := by cases e <;> first | rfl | cases ho
            subst this
            exact endC_ok hm hn hc (o := .ret) (u := .returning) hs (hG.mono hs.le) hta rfl hr hfail h1 h2
          · cases e with
            | panic ch =>
              obtain ⟨v, hv, hvr⟩ := ho
              subst hv
              rename_i x2
              exact endC_ok hm hn hc (o := .panic x2) (u := .panicking [{ v := v, recovered := false }]) hs (hG.mono hs.le) hta ⟨v, rfl, hvr⟩ hr hfail h1 h2
            | _ => cases ho
          · exact absurd hr.symm hfail
        · exact absurd hr.symm hfail
      cases r with
      | fail => trivial
      | ret x s' =>
        refine .inl ⟨hent, main _ (fun x2 s2 e v w' E' hs hv => ?_) (fun x2 s2 e => by cases e)⟩
        cases e
        exact ⟨v, E', rfl, hs, hv⟩
      | panic x s' =>
        refine ⟨hent, main _ (fun x2 s2 e => by cases e) (fun x2 s2 e v w' E' hs hv => ?_)⟩
        cases e
        exact ⟨v, E', rfl, hs, hv⟩
end

/-! ## The same with a continuation -/
section
variable {β : Type}

abbrev KA (β : Type) := Out → T → St → Option β
abbrev CK (β : Type) := FuncId → List AV → St → (Res → Option β) → Option β

/-- what the one says, the other says -/
def Le (a b : Option β) : Prop := ∀ x, a = some x → b = some x
theorem Le.refl (a : Option β) : Le a a := fun _ h => h
theorem Le.none (b : Option β) : Le .none b := fun _ h => by cases h

def goK (k : KA β) (e : Ex) : Option β := match e with | .mk o t s => k o t s | .fail => none

/-- one of two, by a test -/
abbrev byB {α : Type} (u : Bool) (a b : α) : α := match u with | true => a | false => b

/-- Both ways are gone, where a slot says which; and the slot says it from then on. -/
def decideK : List Nat → (T → St → Option β) → T → St → Option β
  | [], k => k
  | d :: l, k => let p := pathOf d; fun t s => match t.tr.getP p with
    | some (.bool u) => byB u (decideK l k { t with tr := t.tr.setP (.bool true) p } s) (decideK l k { t with tr := t.tr.setP (.bool false) p } s)
    | _ => decideK l k t s

theorem Tr.setP_self {α : Type} {x : α} : ∀ {p : List Bool} {t : Tr α}, t.getP p = some x → t.setP x p = t
  | [], .nil, h => by cases h
  | [], .node v l r, h => by simp only [Tr.getP] at h; subst h; rfl
  | b :: p, .nil, h => by cases h
  | true :: p, .node v l r, h => by simp only [Tr.getP, cond_true] at h; simp only [Tr.setP, cond_true]; rw [Tr.setP_self h]
  | false :: p, .node v l r, h => by simp only [Tr.getP, cond_false] at h; simp only [Tr.setP, cond_false]; rw [Tr.setP_self h]

theorem decideK_eq (k : T → St → Option β) : ∀ (l : List Nat) (t : T) (s : St), decideK l k t s = k t s
  | [], _, _ => rfl
  | d :: l, t, s => by
    simp only [decideK]
    split
    · rename_i u e
      cases u
      · show decideK l k _ s = _
        rw [decideK_eq k l, Tr.setP_self e]
      · show decideK l k _ s = _
        rw [decideK_eq k l, Tr.setP_self e]
    · exact decideK_eq k l t s

/-- the slots of tests that an operation hangs on -/
def slotsOf (ops : Array Oper) (o : Oper) : List Nat :=
  (match o.guard with
  | some (j, _) => match (ops[j]?).bind (·.dst) with | some d => [d] | none => []
  | none => []) ++ (match o.op with
  | .pick (.tmp i) _ _ => [i]
  | .unOp _ _ (.tmp i) => [i]
  | .binOp _ _ (.tmp i) (.tmp j) _ => [i, j]
  | .binOp _ _ (.tmp i) _ _ => [i]
  | .binOp _ _ _ (.tmp j) _ => [j]
  | _ => [])

/-- what comes of an operation's outcome -/
def effEx (put : AV → T → T) (chk : T → St → Bool) (fl : List Nat) (t : T) : Nx → Ex
  | .val v s => goOn chk (put v t) s
  | .skip s => goOn chk (put (.tup []) t) s
  | .dfr g args s => goOn chk (put (.tup []) { t with ds := (g, args) :: t.ds }) s
  | .panic v s => .mk (.panic v) (maskT fl t) s
  | .fail => .fail
def plainEx (put : AV → T → T) (t : T) : Nx → Ex
  | .val v s => .mk .normal (put v t) s
  | _ => .fail

def optK {γ : Type} (k : γ → Option β) (x : Option γ) : Option β := match x with | some v => k v | none => none
def resK (k : Nx → Option β) (r : Res) : Option β := match r with | .ret v s => k (.val v s) | .panic v s => k (.panic v s) | .fail => none
def nxK (k : Nx → Option β) (n : Nx) : Option β := match n with | .fail => none | nx => k nx

/-- what a map of pairs of numbers is asked -/
def asPair : Option (Option AV) → Option (Bool × Int × Int)
  | some (some (.agg [.int .i64 a, .int .i64 b])) => some (true, a, b)
  | some none => some (false, 0, 0)
  | _ => none
def pairZ : Option AV → Bool
  | some (.agg [.int .i64 (.ofNat 0), .int .i64 (.ofNat 0)]) => true
  | _ => false

section
variable (P : Program) (G : Glob) (callF : CF) (ck : CK β)

/-- An operation whose outcome may hang on what is not known: each outcome is gone on with. -/
def opK (o : Oper) (k : Nx → Option β) : T → St → Option β :=
  match o.op with
  | .load ty x => let e := evC G x; match shapeT P ty with
    | some (some n) => fun t s => optK (fun v => k (.val (.agg v) s)) (cellsAt n (e t) s)
    | some none => fun t s => optK (fun v => k (.val v s)) (cell1 (e t) s)
    | none => fun _ _ => none
  | .call { callee := .value f, args := args, .. } => match f with
    | .func g => fun t s => ck g (evL G args.toList t) s (resK k)
    | _ => let e := evC G f; fun t s => match e t with
      | .fn (.func g) first captured => ck g (first ++ evL G args.toList t ++ captured) s (resK k)
      | _ => none
  | .mapUpdate ty m key x => match P.underlying ty with
    | some (.map kt _) => match keyT P kt with
      | some d => let m := evC G m; let key := evC G key; let x := evC G x; fun t s => bif isKey d (key t) then match m t with
        | .mp (some r) => match s.get r with
          | some (.mapo es) => optK (fun es => k (.skip (s.set r (.mapo es)))) (putA d (key t) (x t) es)
          | _ => none
        | _ => none
        else none
      | none => fun _ _ => none
    | _ => fun _ _ => none
  | .lookup ty m key true => match P.underlying ty with
    | some (.map kt e) => match zeroT P e, keyT P kt with
      | some z, some d => bif pairZ (some z) then let m := evC G m; let key := evC G key; fun t s => bif isKey d (key t) then match mapEs (m t) s with
          | some es => optK (fun p => k (.val (.tup [.agg [.int .i64 p.2.1, .int .i64 p.2.2], .bool p.1]) s)) (asPair (findA d (key t) es))
          | none => none
          else none
        else fun t s => nxK k (opC P G callF o t s)
      | _, _ => fun _ _ => none
    | _ => fun _ _ => none
  | _ => fun t s => nxK k (opC P G callF o t s)

def itemK (ops : Array Oper) (it : Item) (k : KA β) : T → St → Option β :=
  let put := putC it.p.dst
  let go : T → St → Option β := bif it.p.kd.isEff then let chk := againsC P G callF ops it.chk; fun t s => opK P G callF ck it.p.o (fun nx => goK k (effEx put chk it.fl t nx)) t s
    else fun t s => opK P G callF ck it.p.o (fun nx => goK k (plainEx put t nx)) t s
  match it.p.o.guard with
  | none => go
  | some g => let gd := guardC ops (some g); fun t s => match gd t with
    | some b => bif b then go t s else k .normal (put (.tup []) t) s
    | none => none

def itemsK (ops : Array Oper) : List Item → KA β → T → St → Option β
  | [], k => fun t s => k .normal t s
  | it :: l, k => decideK (slotsOf ops it.p.o) (itemK P G callF ck ops it fun o t s => match o with | .normal => itemsK ops l k t s | o => k o t s)

def regionK (ops : Array Oper) (draw : Bool) : KA β → T → St → Option β :=
  bif draw then match planOf P ops with | some l => itemsK P G callF ck ops l | none => fun _ _ _ => none
  else itemsK P G callF ck ops (plainItems ops)
end

def loopK (kp : Option (List Nat)) (body : KA β → T → St → Option β) (k : KA β) : Nat → T → St → Option β
  | 0 => fun _ _ => none
  | n + 1 => fun t s => body (fun o t s => match o with | .normal => loopK kp body k n (keepT kp t) s | o => k o t s) t s

section
variable (P : Program) (G : Glob) (callF : CF) (ck : CK β) (D : Live)

def execK (n : Nat) : Code → Nat → KA β → T → St → Option β
  | .skip, _, k => fun t s => k .normal t s
  | .region _ ops draw, _, k => regionK P G callF ck ops draw k
  | .seq a b, i, k => execK n a i fun o t s => match o with | .normal => execK n b i k t s | o => k o t s
  | .cond c a b, i, k => decideK (match c with | .tmp d => [d] | _ => []) fun t s => match evC G c t with | .bool u => bif u then execK n a i k t s else execK n b i k t s | _ => none
  | .block id c, _, k => execK n c id fun o t s => match o with | .exit j => bif j.beq id then k .normal t s else k (.exit j) t s | o => k o t s
  | .loop c, i, k => fun t s => loopK (D i) (execK n c i) k n (keepT (D i) t) s
  | .exit id, _, k => fun t s => k (.exit id) t s
  | .ret, _, k => fun t s => k .ret t s
  | .label _, _, k => fun t s => k .normal t s
  | _, _, _ => fun _ _ => none

def bodyJ (kr : Res → Option β) (n : Nat) (fn : Option Func) : List AV → St → Option β :=
  match fn with
  | some fn => match fn.body with
    | some body => fun args s => bif Nat.ble args.length fn.ntmps then
        execK P G callF ck D n body 0 (fun o t s => kr (finC P fn.results.toList (callB P G callF n) (.mk o t s))) ⟨setArgs args 0 .nil, fn.ntmps, [], .no⟩ s
      else none
    | none => fun _ _ => none
  | none => fun _ _ => none
end

def noLive : Live := fun _ => none

/-- Calls, with a continuation. -/
def callK (P : Program) (G : Glob) (X : Known) (loops : Nat) : Nat → CK β
  | 0 => fun _ _ _ _ => none
  | n + 1 => fun f args s kr => match X f with
    | some h => kr (h args s)
    | none => bodyJ P G (callN P G X loops n) (callK P G X loops n) noLive kr loops P.funcs[f]? args s

/-- A function's body: its calls are known, or run n deep. -/
def bodyK (P : Program) (G : Glob) (X : Known) (loops n : Nat) (D : Live) (kr : Res → Option β) (m : Nat) (fn : Option Func) : List AV → St → Option β :=
  bodyJ P G (callN P G X loops n) (callK P G X loops n) D kr m fn

section
variable {P : Program} {G : Glob} {callF : CF} {ck : CK β} {D : Live} {ops : Array Oper} {n : Nat}

theorem Le.cond {u : Bool} {a b c d : Option β} (h1 : Le a c) (h2 : Le b d) : Le (bif u then a else b) (bif u then c else d) := by cases u <;> assumption

theorem opK_le (hck : ∀ f args s (kr kr' : Res → Option β), (∀ r, Le (kr r) (kr' r)) → Le (ck f args s kr) (kr' (callF f args s))) {o : Oper} {k k' : Nx → Option β} (hk : ∀ nx, Le (k nx) (k' nx)) (t : T) (s : St) :
    Le (opK P G callF ck o k t s) (nxK k' (opC P G callF o t s)) := by
  have hres : ∀ r, Le (resK k r) (resK k' r) := fun r => by cases r <;> first | exact hk _ | exact .none _
  have hback : ∀ r, resK k' r = nxK k' (backNx r) := fun r => by cases r <;> rfl
  have hplain : Le (nxK k (opC P G callF o t s)) (nxK k' (opC P G callF o t s)) := by cases opC P G callF o t s <;> first | exact hk _ | exact .none _
  suffices key : ∀ F, opK P G callF ck o k = F → Le (F t s) (nxK k' (opC P G callF o t s)) from key _ rfl
  intro F hF
  unfold opK at hF
  split at hF
  · rename_i ty x e
    simp only [opC, e, loadC]
    split at hF
    · rename_i n hn
      subst hF
      simp only [hn]
      cases cellsAt n (evC G x t) s with
      | none => exact .none _
      | some v => exact hk _
    · rename_i hn
      subst hF
      simp only [hn]
      cases cell1 (evC G x t) s with
      | none => exact .none _
      | some v => exact hk _
    · subst hF; exact .none _
  · rename_i q1 f args q2 e
    simp only [opC, e, callC]
    split at hF
    · rename_i g
      subst hF
      simp only
      rw [← hback]
      exact hck g _ s _ _ hres
    · rename_i hne
      subst hF
      split
      · rename_i g; exact absurd rfl (hne g)
      · simp only
        split
        · rename_i g first captured e2
          simp only [e2]
          rw [← hback]
          exact hck g _ s _ _ hres
        · exact .none _
  · rename_i ty m key x e
    simp only [opC, e, mapUpdateC]
    split at hF
    · rename_i kt q hu
      simp only [hu]
      split at hF
      · rename_i d hd
        subst hF
        simp only [hd]
        cases isKey d (evC G key t) with
        | false => exact .none _
        | true =>
          simp only [cond_true]
          split
          · rename_i r hr
            split
            · rename_i es hes
              cases hp : putA d (evC G key t) (evC G x t) es with
              | none => exact .none _
              | some es' =>
                simp only [hr, hes, hp]
                exact hk _
            · exact .none _
          · exact .none _
      · subst hF; exact .none _
    · subst hF; exact .none _
  · rename_i ty m key e
    split at hF
    · rename_i kt el hu
      split at hF
      · rename_i z d hz hd
        rcases Bool.eq_false_or_eq_true (pairZ (some z)) with hp | hp
        · rw [cond_of_true hp] at hF
          subst hF
          simp only [opC, e, lookupC, hu, hz, hd]
          cases isKey d (evC G key t) with
          | false => exact .none _
          | true =>
            simp only [cond_true]
            cases mapEs (evC G m t) s with
            | none => exact .none _
            | some es =>
              simp only
              generalize findA d (evC G key t) es = r
              unfold asPair
              split
              · exact hk _
              · have hz0 : z = .agg [.int .i64 (.ofNat 0), .int .i64 (.ofNat 0)] := by
                  unfold pairZ at hp
                  split at hp
                  · rename_i e2; exact Option.some.inj e2
                  · cases hp
                subst hz0
                exact hk _
              · exact .none _
        · rw [cond_of_false hp] at hF
          subst hF
          exact hplain
      · subst hF; exact .none _
    · subst hF; exact .none _
  · subst hF; exact hplain

theorem goK_le {k k' : KA β} (h : ∀ o t s, Le (k o t s) (k' o t s)) (e : Ex) : Le (goK k e) (goK k' e) := by
  cases e with
  | fail => exact .none _
  | mk o t s => exact h o t s

variable (hck : ∀ f args s (kr kr' : Res → Option β), (∀ r, Le (kr r) (kr' r)) → Le (ck f args s kr) (kr' (callF f args s)))
include hck

theorem itemK_le {it : Item} {k k' : KA β} (h : ∀ o t s, Le (k o t s) (k' o t s)) (t : T) (s : St) : Le (itemK P G callF ck ops it k t s) (goK k' (itemC P G callF ops it t s)) := by
  have eff : ∀ t s, Le (opK P G callF ck it.p.o (fun nx => goK k (effEx (putC it.p.dst) (againsC P G callF ops it.chk) it.fl t nx)) t s) (goK k' (runEff (opC P G callF it.p.o) (putC it.p.dst) (againsC P G callF ops it.chk) it.fl t s)) := fun t s x hx => by
    have := opK_le hck (k' := fun nx => goK k' (effEx (putC it.p.dst) (againsC P G callF ops it.chk) it.fl t nx)) (fun nx => goK_le h _) t s x hx
    unfold runEff
    generalize opC P G callF it.p.o t s = nx at this
    cases nx <;> first | exact this | (simp only [nxK] at this; cases this)
  have pl : ∀ t s, Le (opK P G callF ck it.p.o (fun nx => goK k (plainEx (putC it.p.dst) t nx)) t s) (goK k' (runPlain (opC P G callF it.p.o) (putC it.p.dst) t s)) := fun t s x hx => by
    have := opK_le hck (k' := fun nx => goK k' (plainEx (putC it.p.dst) t nx)) (fun nx => goK_le h _) t s x hx
    unfold runPlain
    generalize opC P G callF it.p.o t s = nx at this
    cases nx <;> first | exact this | (simp only [nxK, plainEx, goK] at this; cases this)
  unfold itemK itemC
  cases hg : it.p.o.guard with
  | none =>
    simp only
    cases it.p.kd.isEff with
    | true => exact eff t s
    | false => exact pl t s
  | some g =>
    simp only [runGuard]
    cases guardC ops (some g) t with
    | none => exact .none _
    | some b =>
      cases b with
      | false => exact h _ _ _
      | true =>
        simp only [cond_true]
        cases it.p.kd.isEff with
        | true => exact eff t s
        | false => exact pl t s

theorem itemsK_le {k k' : KA β} (h : ∀ o t s, Le (k o t s) (k' o t s)) : ∀ (l : List Item) (t : T) (s : St), Le (itemsK P G callF ck ops l k t s) (goK k' (itemsC P G callF ops l t s))
  | [], _, _ => h _ _ _
  | it :: l, t, s => by
    simp only [itemsK, itemsC, thenC]
    rw [decideK_eq]
    intro x hx
    have := itemK_le hck (k' := fun o t s => match o with | .normal => goK k' (itemsC P G callF ops l t s) | o => k' o t s) (fun o t s => by
      cases o <;> first | exact itemsK_le h l t s | exact h _ _ _) t s x hx
    cases he : itemC P G callF ops it t s with
    | fail => rw [he] at this; cases this
    | mk o t1 s1 =>
      rw [he] at this
      cases o <;> exact this

theorem regionK_le {draw : Bool} {k k' : KA β} (h : ∀ o t s, Le (k o t s) (k' o t s)) (t : T) (s : St) : Le (regionK P G callF ck ops draw k t s) (goK k' (regionC P G callF ops draw t s)) := by
  unfold regionK regionC
  cases draw with
  | false => exact itemsK_le hck h _ t s
  | true =>
    simp only [cond_true]
    cases planOf P ops with
    | none => exact .none _
    | some l => exact itemsK_le hck h l t s

omit hck in
theorem loopK_le {kp : Option (List Nat)} {b : KA β → T → St → Option β} {d : K} (hd : ∀ (k k' : KA β), (∀ o t s, Le (k o t s) (k' o t s)) → ∀ t s, Le (b k t s) (goK k' (d t s))) {k k' : KA β} (h : ∀ o t s, Le (k o t s) (k' o t s)) :
    ∀ n t s, Le (loopK kp b k n t s) (goK k' (loopD kp d n t s))
  | 0, _, _ => .none _
  | n + 1, t, s => by
    intro x hx
    simp only [loopK] at hx
    have := hd _ (fun o t s => match o with | .normal => goK k' (loopD kp d n (keepT kp t) s) | o => k' o t s) (fun o t s => by
      cases o <;> first | exact loopK_le hd h n _ _ | exact h _ _ _) t s x hx
    simp only [loopD]
    cases he : d t s with
    | fail => rw [he] at this; cases this
    | mk o t1 s1 =>
      rw [he] at this
      cases o <;> exact this

theorem execK_le : ∀ (c : Code) (i : Nat) {k k' : KA β}, (∀ o t s, Le (k o t s) (k' o t s)) → ∀ (t : T) (s : St), Le (execK P G callF ck D n c i k t s) (goK k' (execD P G callF D n c i t s))
  | .skip, _, _, _, h, _, _ => h _ _ _
  | .region _ ops draw, _, _, _, h, t, s => regionK_le hck h t s
  | .seq a b, i, k, k', h, t, s => by
    intro x hx
    simp only [execK] at hx
    have := execK_le a i (k' := fun o t s => match o with | .normal => goK k' (execD P G callF D n b i t s) | o => k' o t s) (fun o t s => by
      cases o <;> first | exact execK_le b i h t s | exact h _ _ _) t s x hx
    simp only [execD, thenC]
    cases he : execD P G callF D n a i t s with
    | fail => rw [he] at this; cases this
    | mk o t1 s1 =>
      rw [he] at this
      cases o <;> exact this
  | .cond c a b, i, k, k', h, t, s => by
    simp only [execK, execD, condC]
    rw [decideK_eq]
    cases evC G c t with
    | bool u => cases u <;> simp only [cond_true, cond_false] <;> first | exact execK_le a i h t s | exact execK_le b i h t s
    | _ => exact .none _
  | .block id c, _, k, k', h, t, s => by
    intro x hx
    simp only [execK] at hx
    have := execK_le c id (k' := fun o t s => match o with | .exit j => bif j.beq id then k' .normal t s else k' (.exit j) t s | o => k' o t s) (fun o t s => by
      cases o <;> first | exact Le.cond (h _ _ _) (h _ _ _) | exact h _ _ _) t s x hx
    simp only [execD, blockC]
    cases he : execD P G callF D n c id t s with
    | fail => rw [he] at this; cases this
    | mk o t1 s1 =>
      rw [he] at this
      cases o with
      | exit j =>
        simp only [goK] at this ⊢
        revert this
        cases j.beq id <;> exact fun h => h
      | _ => exact this
  | .loop c, i, _, _, h, _, _ => loopK_le (fun _ _ h t s => execK_le c i h t s) h n _ _
  | .exit _, _, _, _, h, _, _ => h _ _ _
  | .ret, _, _, _, h, _, _ => h _ _ _
  | .label _, _, _, _, h, _, _ => h _ _ _
  | .rangeFunc _ _ _ _, _, _, _, _, _, _ => .none _
  | .scope _, _, _, _, _, _, _ => .none _
  | .goto _, _, _, _, _, _, _ => .none _
  | .refuse _, _, _, _, _, _, _ => .none _

theorem bodyJ_le {kr kr' : Res → Option β} (h : ∀ r, Le (kr r) (kr' r)) (fn : Option Func) (args : List AV) (s : St) : Le (bodyJ P G callF ck D kr n fn args s) (kr' (bodyD P G callF D n fn args s)) := by
  unfold bodyJ bodyD
  cases fn with
  | none => exact .none _
  | some fn =>
    simp only
    cases hbd : fn.body with
    | none => exact .none _
    | some body =>
      simp only
      cases Nat.ble args.length fn.ntmps with
      | false => exact .none _
      | true =>
        simp only [cond_true]
        intro x hx
        have := execK_le hck (D := D) body 0 (k' := fun o t s => kr' (finC P fn.results.toList (callB P G callF n) (.mk o t s))) (fun o t s => h _) _ s x hx
        generalize execD P G callF D n body 0 ⟨setArgs args 0 .nil, fn.ntmps, [], .no⟩ s = e at this
        cases e with
        | fail => cases this
        | mk o t1 s1 => exact this
end

theorem noLive_exec {P : Program} {G : Glob} {callF : CF} {n : Nat} : ∀ (c : Code) (i : Nat), execD P G callF noLive n c i = execC P G callF n c
  | .skip, _ => rfl
  | .region _ _ _, _ => rfl
  | .seq a b, i => by simp only [execD, execC]; rw [noLive_exec a, noLive_exec b]
  | .cond c a b, i => by simp only [execD, execC]; rw [noLive_exec a, noLive_exec b]
  | .block id c, _ => by simp only [execD, execC]; rw [noLive_exec c]
  | .loop c, i => by
    simp only [execD, execC]
    rw [noLive_exec c]
    have : ∀ m, loopD (noLive i) (execC P G callF n c) m = loopN (execC P G callF n c) m := by
      intro m
      induction m with
      | zero => rfl
      | succ m ih =>
        funext t s
        simp only [loopD, loopN, thenC]
        cases execC P G callF n c t s with
        | fail => rfl
        | mk o t1 s1 => cases o <;> simp only [keepT, noLive, ← ih] <;> rfl
    rw [this]
    rfl
  | .exit _, _ => rfl
  | .ret, _ => rfl
  | .label _, _ => rfl
  | .rangeFunc _ _ _ _, _ => rfl
  | .scope _, _ => rfl
  | .goto _, _ => rfl
  | .refuse _, _ => rfl

theorem noLive_body {P : Program} {G : Glob} {callF : CF} {n : Nat} (fn : Option Func) : bodyD P G callF noLive n fn = bodyC P G callF n fn := by
  unfold bodyD bodyC
  cases fn with
  | none => rfl
  | some fn =>
    simp only
    cases fn.body with
    | none => rfl
    | some c => simp only; rw [noLive_exec c]

theorem callK_le {P : Program} {G : Glob} {X : Known} {loops : Nat} : ∀ (n : Nat) (f : FuncId) (args : List AV) (s : St) (kr kr' : Res → Option β), (∀ r, Le (kr r) (kr' r)) → Le (callK P G X loops n f args s kr) (kr' (callN P G X loops n f args s))
  | 0, _, _, _, _, _, _ => .none _
  | n + 1, f, args, s, kr, kr', h => by
    simp only [callK, callN]
    cases X f with
    | some g => exact h _
    | none =>
      simp only
      rw [← noLive_body]
      exact bodyJ_le (callK_le n) h _ args s

theorem bodyK_le {P : Program} {G : Glob} {X : Known} {loops n m : Nat} {D : Live} {kr : Res → Option β} {fn : Option Func} {args : List AV} {s : St} {x : β} (h : bodyK P G X loops n D kr m fn args s = some x) :
    kr (bodyD P G (callN P G X loops n) D m fn args s) = some x := bodyJ_le (callK_le n) (fun _ => .refl _) fn args s x h
end

/-! ## What is run from nothing -/
mutual
/-- it leads nowhere -/
def AV.flat : AV → Bool
  | .ptr _ _ | .sl _ _ _ _ _ | .mp (some _) | .hptr _ | .ptrL _ _ | .lst (_ :: _) _ _ _ => false
  | .agg l | .tup l => AV.flats l
  | .fn _ a b => AV.flats a && AV.flats b
  | .ifc _ v => AV.flat v
  | _ => true
def AV.flats : List AV → Bool
  | [] => true
  | a :: l => AV.flat a && AV.flats l
end

mutual
theorem VR.flat {E E1 : Env} : ∀ {a : AV} {v : Value}, VR E1 a v → a.flat = true → VR E a v
  | _, _, .int k n, _ => .int k n
  | _, _, .bool b, _ => .bool b
  | _, _, .str s, _ => .str s
  | _, _, .nilp, _ => .nilp
  | _, _, .ptr _ _, p => by simp [AV.flat] at p
  | _, _, .ptrL _ _ _, p => by simp [AV.flat] at p
  | _, _, .sl _ _ _ _, p => by simp [AV.flat] at p
  | _, _, .lst .nil hl ht hn hc _, _ => .lst .nil hl ht hn hc (fun h => absurd rfl h)
  | _, _, .lst (.cons _ _) _ _ _ _ _, p => by simp [AV.flat] at p
  | _, _, .mpn, _ => .mpn
  | _, _, .mp _, p => by simp [AV.flat] at p
  | _, _, .hp _, p => by simp [AV.flat] at p
  | _, _, .fn a b, p => by
    simp [AV.flat] at p
    exact .fn (VRL.flat a p.1) (VRL.flat b p.2)
  | _, _, .nilfn, _ => .nilfn
  | _, _, .ifc h, p => .ifc (VR.flat h (by simpa [AV.flat] using p))
  | _, _, .nilifc, _ => .nilifc
  | _, _, .agg h, p => .agg (VRL.flat h (by simpa [AV.flat] using p))
  | _, _, .tup h, p => .tup (VRL.flat h (by simpa [AV.flat] using p))
  | _, _, .undef v, _ => .undef v
theorem VRL.flat {E E1 : Env} : ∀ {l : List AV} {r : List Value}, VRL E1 l r → AV.flats l = true → VRL E l r
  | _, _, .nil, _ => .nil
  | _, _, .cons h t, p => by
    simp [AV.flats] at p
    exact .cons (VR.flat h p.1) (VRL.flat t p.2)
end

def Env.none : Env := ⟨fun _ => .none, fun _ _ => .none, fun _ => 0, fun _ => .none, fun _ _ => False, fun _ _ _ _ => False⟩

/-- Nothing is numbered. -/
def Env.bare (E : Env) : Env := { Env.none with z := E.z, bsz := E.bsz, H := E.H }

theorem Wf.empty : Wf St.empty where
  fresh r _ := St.get_empty r
  root r o e := by rw [St.get_empty] at e; cases e
  solo r o e := by rw [St.get_empty] at e; cases e

theorem Rel.bare {E : Env} {s : St} {w : World} (h : Rel E s w) : Rel E.bare St.empty w where
  wf := .empty
  lt r b base e := by cases e
  obj r p e := by cases e
  z := h.z
  zap b o v r base _ e := by cases e
  row r o b base _ e := by cases e
  mapo r es b base _ e := by cases e
  iter r x n b base _ e := by cases e
  coh r1 r2 b b1 b2 e := by cases e
  b0 r o b base _ e := by cases e
  hid n d b _ e := by cases e
  own n c e := e.elim
  hlt n b e := by cases e

/-- What was run from nothing left all alone. -/
theorem Step.alone {E E1 : Env} {s s1 : St} {w w' : World} (h0 : Rel E s w) (h : Step E.bare St.empty w E1 s1 w') : Step E s w E s w' := by
  have hfr : ∀ b, b < w.heap.size → w'.heap[b]? = w.heap[b]? := fun b hb => h.fr b hb (fun r base e => by cases e) (fun n e => e)
  refine ⟨.refl E, fun _ _ => rfl, fun r b base e => .inr ⟨r, base, e⟩, ?_, fun _ _ _ _ _ => rfl, Nat.le_refl _, fun b hb _ _ => hfr b hb, h.os, h.tape, h.output, h.size, fun _ _ e => .inl e, fun _ d e => ⟨d, e⟩⟩
  refine ⟨h0.wf, fun r b base e => ⟨(h0.lt r b base e).1, Nat.lt_of_lt_of_le (h0.lt r b base e).2 h.size⟩, h0.obj, fun b o v e => h.rel.z b o v (h.le.z b o v e), h0.zap, ?_, ?_, h0.iter, h0.coh, h0.b0,
    fun n d b e eb w1 hw => h0.hid n d b e eb w1 fun k hk => (hw k hk).trans (hfr k (h0.own n k hk).1), fun n k hk => ⟨Nat.lt_of_lt_of_le (h0.own n k hk).1 h.size, (h0.own n k hk).2⟩, h0.hlt⟩
  · intro r o b base e el
    rw [hfr b (h0.lt r b base el).2]
    exact h0.row r o b base e el
  · intro r es b base e el
    rw [hfr b (h0.lt r b base el).2]
    exact h0.mapo r es b base e el

/-- The globals' cells lead to nothing that is numbered. -/
def GlobPlain (G : Glob) : Prop := ∀ g cs, G.at_ g = some cs → AV.plains cs = true

theorem GlobOk.bare {E : Env} {G : Glob} (hp : GlobPlain G) (h : GlobOk E G) : GlobOk E.bare G := ⟨fun g cs hg => by
  obtain ⟨vs, h1, h2⟩ := h.1 g cs hg
  exact ⟨vs, VRL.plain (E := E.bare) (E1 := E) (fun _ _ _ e => e) h1 (hp g cs hg), h2⟩, h.2⟩

def Res.val? : Res → Option AV
  | .ret v _ => some v
  | _ => none

/-- A function of values that lead to nothing that is numbered, run from nothing. -/
theorem flat_known {P : Program} {G : Glob} (hm : P.follows .mixedOrders = true) (hn : NoNG P) (hp : GlobPlain G) {X : Known} (hX : KnownOk P G X) {D : Live} {m loops n : Nat} {f : FuncId} {F : List AV → Option AV}
    (hF : ∀ args x, F args = some x → AV.plains args = true ∧ x.flat = true ∧ bodyK P G X loops n D Res.val? m P.funcs[f]? args St.empty = some x) :
    ∀ (args : List AV) (s : St) (E : Env) (w : World) (vs : List Value), Rel E s w → GlobOk E G → VRL E args vs → ResOk P E s w f vs (pureX F args s) := by
  intro args s E w vs h hG ha
  unfold pureX
  cases hx : F args with
  | none => trivial
  | some x =>
    obtain ⟨h1, h2, h3⟩ := hF args x hx
    have h3 := bodyK_le h3
    have := bodyD_ok (D := D) hm hn (callN_ok hm hn hX loops n) m f args St.empty E.bare w vs h.bare (hG.bare hp) (VRL.plain (E := E.bare) (E1 := E) (fun _ _ _ e => e) ha h1)
    cases hb : bodyD P G (callN P G X loops n) D m P.funcs[f]? args St.empty with
    | ret y s1 =>
      rw [hb] at h3 this
      simp only [Res.val?, Option.some.injEq] at h3
      subst h3
      rcases this with ⟨h4, h5⟩ | ⟨v', w', E', h4, h5, h6⟩
      · exact .inl ⟨h4, Calls.mono h5 fun e w' ⟨v', E', he, hs, hv⟩ => ⟨v', E, he, .alone h hs, hv.flat h2⟩⟩
      · exact .inr ⟨v', w', E, h4, .alone h h5, h6.flat h2⟩
    | _ => rw [hb] at h3; cases h3

theorem returns_of_K {P : Program} {G : Glob} (hm : P.follows .mixedOrders = true) (hn : NoNG P) {X : Known} (hX : KnownOk P G X) {D : Live} {m loops n : Nat} {f : FuncId} {args : List AV} {s : St} {E : Env} {w : World} {vs : List Value} {x : AV}
    (h : Rel E s w) (hG : GlobOk E G) (ha : VRL E args vs) (hr : bodyK P G X loops n D Res.val? m P.funcs[f]? args s = some x) (hb : ∀ fn, P.funcs[f]? = some fn → fn.body.isSome = true) :
    Calls P f ⟨vs⟩ w fun e w' => ∃ v' E' s', e = .returned v' ∧ Step E s w E' s' w' ∧ VR E' x v' := by
  have hr := bodyK_le hr
  have := bodyD_ok (D := D) hm hn (callN_ok hm hn hX loops n) m f args s E w vs h hG ha
  cases hb' : bodyD P G (callN P G X loops n) D m P.funcs[f]? args s with
  | ret y s1 =>
    rw [hb'] at hr this
    simp only [Res.val?, Option.some.injEq] at hr
    subst hr
    rcases this with ⟨_, h2⟩ | ⟨v', w', E', h1, _, _⟩
    · exact Calls.mono h2 fun e w' ⟨v', E', he, hs, hv⟩ => ⟨v', E', s1, he, hs, hv⟩
    · cases hf : P.funcs[f]? with
      | none => rw [hf] at hb'; simp [bodyD] at hb'
      | some fn =>
        have h4 := run_callFunc ⟨fn, hf, hb fn hf, hn f fn hf⟩ ⟨vs⟩ w
        rw [h4] at h1
        cases h1
  | _ => rw [hb'] at hr; cases hr
end Go.Am
