/- Calls, on both sides. -/
import Derived.Test.YtaiddjgpnpbckaaGreatDoorAmCode
set_option autoImplicit false
namespace Go.Am

/-- No function is the one that the model answers itself. -/
def NoNG (P : Program) : Prop := ∀ (f : FuncId) (fn : Func), P.funcs[f]? = some fn → fn.name ≠ "runtime.NumGoroutine"

/-- What 'recover' yields in a deferred function of a frame in this mode. -/
def Recov (E : Env) (rv : AV) (u : FrameMode) : Prop := (u = .returning ∧ rv = .nilifc) ∨ ∃ v, u = .panicking [{ v := v, recovered := false }] ∧ VR E rv v

section
variable {P : Program} {G : Glob} {callF : CF}

theorem callD_one (hm : P.follows .mixedOrders = true) (hn : NoNG P) (hc : CFok P G callF) {n : Nat} {f : FuncId} {rv : AV} {args : List AV} {s s' : St} {E : Env} {w : World} {vs : List Value} {u : FrameMode}
    (h : Rel E s w) (hG : GlobOk E G) (ha : VRL E args vs) (hrv : Recov E rv u) {fn : Func} (hfn : P.funcs[f]? = some fn) {id : Nat} {ops : Array Oper} {rest : Code} (hbody : fn.body = some (.seq (.region id ops false) rest))
    {r : Oper} (hops : ops.toList = [r]) {F : AV → List AV → St → Option St}
    (hF : (match r.op, r.guard with
        | .call { callee := .builtin .recover, .. }, none => bif fn.results.toList.isEmpty then
            let k := execC P G callF n rest
            fun rv args s => bif Nat.ble args.length fn.ntmps then
              match k (putC r.dst rv ⟨setArgs args 0 .nil, fn.ntmps, [], .no⟩) s with
              | .mk out t s => match t.ds, out with
                | [], .normal | [], .ret => some s
                | _, _ => none
              | .fail => none
            else none
          else fun _ _ _ => none
        | _, _ => fun _ _ _ => none) = F) (hr : F rv args s = some s') :
    Enters P f ∧ CallsD P f ⟨vs⟩ u w fun e u' w' => ∃ v' E', e = .returned v' ∧ settle u' = .returning ∧ Step E s w E' s' w' := by
  split at hF
  rotate_left
  · subst hF; cases hr
  rename_i as ts hop hg1
  rcases Bool.eq_false_or_eq_true fn.results.toList.isEmpty with hb | hb
  rotate_left
  · rw [cond_of_false hb] at hF; subst hF; cases hr
  rw [cond_of_true hb] at hF
  subst hF
  simp only at hr
  rcases Bool.eq_false_or_eq_true (Nat.ble args.length fn.ntmps) with hl | hl
  rotate_left
  · rw [cond_of_false hl] at hr; cases hr
  rw [cond_of_true hl] at hr
  have hle := Nat.le_of_ble_eq_true hl
  have hres : fn.results = #[] := by
    have : fn.results.toList = [] := by simpa using hb
    exact Array.toList_eq_nil_iff.1 this
  refine ⟨⟨fn, hfn, by rw [hbody]; rfl, hn f fn hfn⟩, callsD_of_wpS hfn hbody fun c₀ cs hu => wpS_seq (wpS_region ?_)⟩
  have h0 : ops[0]? = some r := by
    have : ops.toList[0]? = some r := by rw [hops]; rfl
    simpa using this
  have hsz : ops.size = 1 := by rw [← Array.length_toList, hops]; rfl
  have ht0 := enter_TR ha hle
  have hw : ∀ (y : Nat → Option Bool) (o : Oper), o.guard = none → Region.wanted o y = true := fun y o hg => by unfold Region.wanted; rw [hg]
  have hrec : ∀ (a : Act), (execOp a.eval r).run P w = .ok .recover w := fun a => by simp [execOp, hop, resolve, invoke, builtin]
  have fin : ∀ (v : Value) (u' : FrameMode) (cs' : List Frame), VR E rv v → cs' = { c₀ with mode := u' } :: cs → settle u' = .returning → ∀ a1, a1 = ({ tmps := (⟨vs⟩ : Array Value) ++ Array.replicate (fn.ntmps - vs.length) undef, defers := [] } : Act).put r.dst v →
      rest.wpS P (bodyPostS P fn c₀ cs fun e u' w' => ∃ v' E', e = .returned v' ∧ settle u' = .returning ∧ Step E s w E' s' w') a1 cs' w := by
    intro v u' cs' hv hcs hu' a1 ha1
    have ht1 := ht0.putC r.dst hv
    rw [← ha1] at ht1
    refine wpS_of_wp ?_
    split at hr
    · rename_i out t s1 e1
      refine (exec_ok hm hc n rest).go h hG ht1 e1 fun e a' w' E' hs hta ho => ?_
      have hds := hta.ds
      split at hr
      · rename_i hd
        cases hr
        rw [ho.normal]
        rw [hd] at hds
        generalize hdd : a'.defers = dd at hds
        cases hds
        exact ⟨hdd, u', hcs, .tuple #[], results_none hres _ _ _, _, E', rfl, hu', hs⟩
      · rename_i hd
        cases hr
        have : e = .ret := by cases e <;> first | rfl | cases ho
        subst this
        rw [hd] at hds
        generalize hdd : a'.defers = dd at hds
        cases hds
        exact ⟨hdd, u', hcs, .tuple #[], results_none hres _ _ _, _, E', rfl, hu', hs⟩
      · cases hr
    · cases hr
  rw [hsz]
  show wpOpsS P ops _ [0] _ _ _
  unfold wpOpsS
  simp only [h0, hw _ r hg1, if_true, hrec]
  rcases hrv with ⟨hu1, hrv1⟩ | ⟨v, hu1, hrv1⟩
  · have hrD : recoverD (c₀ :: cs) = none := by simp [recoverD, hu, hu1]
    rw [hrD]
    subst hrv1
    exact fin .nilIface .returning (c₀ :: cs) .nilifc (by rw [← hu1, ← hu]) rfl _ rfl
  · have hrD : recoverD (c₀ :: cs) = some (v, { c₀ with mode := .panicking [{ v := v, recovered := true }] } :: cs) := by simp [recoverD, hu, hu1]
    rw [hrD]
    exact fin v (.panicking [{ v := v, recovered := true }]) _ hrv1 rfl rfl _ rfl

theorem callD_ok (hm : P.follows .mixedOrders = true) (hn : NoNG P) (hc : CFok P G callF) {n : Nat} {f : FuncId} {rv : AV} {args : List AV} {s s' : St} {E : Env} {w : World} {vs : List Value} {u : FrameMode}
    (h : Rel E s w) (hG : GlobOk E G) (ha : VRL E args vs) (hrv : Recov E rv u) (hr : callD P G callF n f rv args s = some s') :
    Enters P f ∧ CallsD P f ⟨vs⟩ u w fun e u' w' => ∃ v' E', e = .returned v' ∧ settle u' = .returning ∧ Step E s w E' s' w' := by
  suffices key : ∀ F, callD P G callF n f = F → F rv args s = some s' → _ from key _ rfl hr
  intro F hF hr
  unfold callD at hF
  split at hF
  rotate_left
  · subst hF; cases hr
  rename_i fn hfn
  split at hF
  rotate_left
  · subst hF; cases hr
  rename_i id ops rest hbody
  split at hF
  rotate_left
  · rename_i r hops
    exact callD_one hm hn hc h hG ha hrv hfn hbody hops hF hr
  · subst hF; cases hr
  rename_i r o hops
  split at hF
  rotate_left
  · subst hF; cases hr
  rename_i as ts x hop hg1 hox hg2
  rcases Bool.eq_false_or_eq_true fn.results.toList.isEmpty with hb | hb
  rotate_left
  · rw [cond_of_false hb] at hF; subst hF; cases hr
  rw [cond_of_true hb] at hF
  subst hF
  simp only at hr
  rcases Bool.eq_false_or_eq_true (Nat.ble args.length fn.ntmps) with hl | hl
  rotate_left
  · rw [cond_of_false hl] at hr; cases hr
  rw [cond_of_true hl] at hr
  have hle := Nat.le_of_ble_eq_true hl
  have hres : fn.results = #[] := by
    have : fn.results.toList = [] := by simpa using hb
    exact Array.toList_eq_nil_iff.1 this
  refine ⟨⟨fn, hfn, by rw [hbody]; rfl, hn f fn hfn⟩, callsD_of_wpS hfn hbody fun c₀ cs hu => wpS_seq (wpS_region ?_)⟩
  have h0 : ops[0]? = some r := by
    have : ops.toList[0]? = some r := by rw [hops]; rfl
    simpa using this
  have h1 : ops[1]? = some o := by
    have : ops.toList[1]? = some o := by rw [hops]; rfl
    simpa using this
  have hsz : ops.size = 2 := by rw [← Array.length_toList, hops]; rfl
  have ht0 := enter_TR ha hle
  have hw : ∀ (y : Nat → Option Bool) (o : Oper), o.guard = none → Region.wanted o y = true := fun y o hg => by unfold Region.wanted; rw [hg]
  have hrec : ∀ (a : Act), (execOp a.eval r).run P w = .ok .recover w := fun a => by simp [execOp, hop, resolve, invoke, builtin]
  have hasn : ∀ (a : Act), (execOp a.eval o).run P w = .ok (.value (a.eval x)) w := fun a => by simp [execOp, hox]
  -- the rest
  have fin : ∀ (v : Value) (u' : FrameMode) (cs' : List Frame), VR E rv v → cs' = { c₀ with mode := u' } :: cs → settle u' = .returning → ∀ a1, a1 = ({ tmps := (⟨vs⟩ : Array Value) ++ Array.replicate (fn.ntmps - vs.length) undef, defers := [] } : Act).put r.dst v →
      rest.wpS P (bodyPostS P fn c₀ cs fun e u' w' => ∃ v' E', e = .returned v' ∧ settle u' = .returning ∧ Step E s w E' s' w') (a1.put o.dst (a1.eval x)) cs' w := by
    intro v u' cs' hv hcs hu' a1 ha1
    have ht1 := ht0.putC r.dst hv
    rw [← ha1] at ht1
    have ht2 := ht1.putC o.dst (evC_ok hG ht1 x)
    refine wpS_of_wp ?_
    split at hr
    · rename_i out t s1 e1
      refine (exec_ok hm hc n rest).go h hG ht2 e1 fun e a' w' E' hs hta ho => ?_
      have hds := hta.ds
      split at hr
      · rename_i hd
        cases hr
        rw [ho.normal]
        rw [hd] at hds
        generalize hdd : a'.defers = dd at hds
        cases hds
        exact ⟨hdd, u', hcs, .tuple #[], results_none hres _ _ _, _, E', rfl, hu', hs⟩
      · rename_i hd
        cases hr
        have : e = .ret := by cases e <;> first | rfl | cases ho
        subst this
        rw [hd] at hds
        generalize hdd : a'.defers = dd at hds
        cases hds
        exact ⟨hdd, u', hcs, .tuple #[], results_none hres _ _ _, _, E', rfl, hu', hs⟩
      · cases hr
    · cases hr
  rw [hsz]
  show wpOpsS P ops _ [0, 1] _ _ _
  unfold wpOpsS
  simp only [h0, hw _ r hg1, if_true, hrec]
  rcases hrv with ⟨hu1, hrv1⟩ | ⟨v, hu1, hrv1⟩
  · have hrD : recoverD (c₀ :: cs) = none := by simp [recoverD, hu, hu1]
    rw [hrD]
    simp only
    unfold wpOpsS
    simp only [h1, hw _ o hg2, if_true, hasn]
    subst hrv1
    exact fin .nilIface .returning (c₀ :: cs) .nilifc (by rw [← hu1, ← hu]) rfl _ rfl
  · have hrD : recoverD (c₀ :: cs) = some (v, { c₀ with mode := .panicking [{ v := v, recovered := true }] } :: cs) := by simp [recoverD, hu, hu1]
    rw [hrD]
    simp only
    unfold wpOpsS
    simp only [h1, hw _ o hg2, if_true, hasn]
    exact fin v (.panicking [{ v := v, recovered := true }]) _ hrv1 rfl rfl _ rfl

theorem callE_ok (hm : P.follows .mixedOrders = true) (hn : NoNG P) (hc : CFok P G callF) {n : Nat} {f : FuncId} {args : List AV} {s s' : St} {E : Env} {w : World} {vs : List Value}
    (h : Rel E s w) (hG : GlobOk E G) (ha : VRL E args vs) (hr : callE P G callF n f args s = some s') :
    Enters P f ∧ CallsD P f ⟨vs⟩ .returning w fun e u' w' => ∃ v' E', e = .returned v' ∧ settle u' = .returning ∧ Step E s w E' s' w' := by
  suffices key : ∀ F, callE P G callF n f = F → F args s = some s' → _ from key _ rfl hr
  intro F hF hr
  unfold callE at hF
  split at hF
  rotate_left
  · subst hF; cases hr
  rename_i fn hfn
  split at hF
  rotate_left
  · subst hF; cases hr
  rename_i body hbody
  rcases Bool.eq_false_or_eq_true fn.results.toList.isEmpty with hb | hb
  rotate_left
  · rw [cond_of_false hb] at hF; subst hF; cases hr
  rw [cond_of_true hb] at hF
  subst hF
  simp only at hr
  rcases Bool.eq_false_or_eq_true (Nat.ble args.length fn.ntmps) with hl | hl
  rotate_left
  · rw [cond_of_false hl] at hr; cases hr
  rw [cond_of_true hl] at hr
  have hle := Nat.le_of_ble_eq_true hl
  have hres : fn.results = #[] := by
    have : fn.results.toList = [] := by simpa using hb
    exact Array.toList_eq_nil_iff.1 this
  refine ⟨⟨fn, hfn, by rw [hbody]; rfl, hn f fn hfn⟩, callsD_of_wpS hfn hbody fun c₀ cs hu => ?_⟩
  have ht1 := enter_TR ha hle
  refine wpS_of_wp ?_
  split at hr
  · rename_i out t s1 e1
    refine (exec_ok hm hc n body).go h hG ht1 e1 fun e a' w' E' hs hta ho => ?_
    have hds := hta.ds
    split at hr
    · rename_i hd
      cases hr
      rw [ho.normal]
      rw [hd] at hds
      generalize hdd : a'.defers = dd at hds
      cases hds
      exact ⟨hdd, .returning, by rw [← hu], .tuple #[], results_none hres _ _ _, _, E', rfl, rfl, hs⟩
    · rename_i hd
      cases hr
      have : e = .ret := by cases e <;> first | rfl | cases ho
      subst this
      rw [hd] at hds
      generalize hdd : a'.defers = dd at hds
      cases hds
      exact ⟨hdd, .returning, by rw [← hu], .tuple #[], results_none hres _ _ _, _, E', rfl, rfl, hs⟩
    · cases hr
  · cases hr

/-- How a frame leaves its code. -/
def ModeOk (E : Env) : Out → FrameMode → Prop
  | .ret, u => u = .returning
  | .panic x, u => ∃ v, u = .panicking [{ v := v, recovered := false }] ∧ VR E x v
  | _, _ => False

theorem leaves_ok (hm : P.follows .mixedOrders = true) (hn : NoNG P) (hc : CFok P G callF) {n : Nat} {fn : Func} {t : T} {a : Act} {R : Ending → World → Prop} {E0 : Env} {s0 : St} {w0 : World} {o2 : Out} {s2 : St}
    (hR : ∀ E w u, Step E0 s0 w0 E s2 w → ModeOk E o2 u → TR E t a → Leaves P fn a.tmps R [] u w) : ∀ (l : List (FuncId × List AV)) (ds : List Deferred) (o : Out) (u : FrameMode) {E : Env} {s : St} {w : World},
    Step E0 s0 w0 E s w → GlobOk E G → TR E t a → DfrsR E l ds → ModeOk E o u → runDs (callB P G callF n) l o s = some (o2, s2) → Leaves P fn a.tmps R ds u w
  | [], ds, o, u, E, s, w, hs, hG, ht, hd, hmo, hr => by
    cases hd
    simp only [runDs, Option.some.injEq, Prod.mk.injEq] at hr
    obtain ⟨rfl, rfl⟩ := hr
    exact hR E w u hs hmo ht
  | (f, args) :: l, ds, o, u, E, s, w, hs, hG, ht, hd, hmo, hr => by
    cases hd with
    | cons hd hds =>
      rename_i d ds
      obtain ⟨cap, h1, h2⟩ := hd
      simp only [runDs] at hr
      split at hr
      · rename_i s1 e1
        have hrv : Recov E (rcOf o) u := by
          cases o with
          | ret => exact .inl ⟨hmo, rfl⟩
          | panic x => exact .inr hmo
          | normal => exact hmo.elim
          | exit i => exact hmo.elim
        obtain ⟨hent, hcall⟩ : Enters P f ∧ CallsD P f ⟨d.args.toList ++ cap⟩ u w fun e u' w' => ∃ v' E', e = .returned v' ∧ settle u' = .returning ∧ Step E s w E' s1 w' := by
          unfold callB at e1
          split at e1
          · rename_i s2 e2
            cases e1
            exact callD_ok hm hn hc hs.rel hG h2 hrv e2
          · split at e1
            · have hmo : u = .returning := hmo
              subst hmo
              exact callE_ok hm hn hc hs.rel hG h2 e1
            · cases e1
        refine ⟨?_, .func f, ⟨cap⟩, f, ⟨d.args.toList ++ cap⟩, h1, ?_, ?_⟩
        · rintro rfl
          cases o with
          | ret => cases hmo
          | panic x => obtain ⟨v, hv, _⟩ := hmo; cases hv
          | normal => exact hmo
          | exit i => exact hmo
        · rw [h1]
          have : (⟨d.args.toList ++ cap⟩ : Array Value) = d.args ++ ⟨cap⟩ := by apply Array.ext'; simp
          rw [this]
          exact run_callFunc hent _ _
        · refine CallsD.mono hcall fun e u' w' ⟨v', E', he, hset, hst⟩ => ?_
          subst he
          simp only
          rw [hset]
          exact leaves_ok hm hn hc hR l ds .ret .returning (hs.trans hst) (hG.mono hst.le) (ht.mono hst.le) (hds.mono hst.le) rfl hr
      · cases hr

theorem endC_ok (hm : P.follows .mixedOrders = true) (hn : NoNG P) (hc : CFok P G callF) {n : Nat} {fn : Func} {t : T} {a : Act} {E0 E : Env} {s0 s : St} {w0 w : World} {o : Out} {u : FrameMode} {r : Res}
    (hs : Step E0 s0 w0 E s w) (hG : GlobOk E G) (ht : TR E t a) (hmo : ModeOk E o u) (hr : endC P fn.results.toList (callB P G callF n) o t s = r) (hf : r ≠ .fail)
    {R : Ending → World → Prop} (h1 : ∀ x s', r = .ret x s' → ∀ v w' E', Step E0 s0 w0 E' s' w' → VR E' x v → R (.returned v) w')
    (h2 : ∀ x s', r = .panic x s' → ∀ v w' E', Step E0 s0 w0 E' s' w' → VR E' x v → R (.panicked [{ v := v, recovered := false }]) w') : Leaves P fn a.tmps R a.defers u w := by
  unfold endC at hr
  split at hr
  · rename_i x s2 e
    refine leaves_ok hm hn hc (fun E' w' u' hs' hmo' _ => ?_) t.ds a.defers o u hs hG ht ht.ds hmo e
    obtain ⟨v, rfl, hv⟩ := hmo'
    exact h2 x s2 hr.symm v w' E' hs' hv
  · rename_i o2 s2 hne e
    split at hr
    · rename_i l hl
      refine leaves_ok hm hn hc (fun E' w' u' hs' hmo' ht' => ?_) t.ds a.defers o u hs hG ht ht.ds hmo e
      obtain ⟨v, hv, hrun⟩ := results_ok hs'.rel ht' hl
      cases o2 with
      | ret =>
        have : u' = .returning := hmo'
        subst this
        exact ⟨v, hrun, h1 _ s2 hr.symm v w' E' hs' hv⟩
      | panic x => exact absurd rfl (hne x)
      | normal => exact hmo'.elim
      | exit i => exact hmo'.elim
    · exact absurd hr.symm hf
  · exact absurd hr.symm hf

theorem bodyC_ok (hm : P.follows .mixedOrders = true) (hn : NoNG P) (hc : CFok P G callF) (n : Nat) (f : FuncId) (args : List AV) (s : St) (E : Env) (w : World) (vs : List Value) (h : Rel E s w) (hG : GlobOk E G) (ha : VRL E args vs) :
    ResOk P E s w f vs (bodyC P G callF n P.funcs[f]? args s) := by
  generalize hr : bodyC P G callF n P.funcs[f]? args s = r
  by_cases hfail : r = .fail
  · subst hfail; trivial
  unfold bodyC at hr
  cases hfn : P.funcs[f]? with
  | none => rw [hfn] at hr; exact absurd hr.symm hfail
  | some fn =>
    cases hb : fn.body with
    | none => simp only [hfn, hb] at hr; exact absurd hr.symm hfail
    | some c =>
      simp only [hfn, hb] at hr
      rcases Bool.eq_false_or_eq_true (Nat.ble args.length fn.ntmps) with hl | hl
      rotate_left
      · rw [cond_of_false hl] at hr; exact absurd hr.symm hfail
      rw [cond_of_true hl] at hr
      have hle := Nat.le_of_ble_eq_true hl
      have hent : Enters P f := ⟨fn, hfn, by rw [hb]; rfl, hn f fn hfn⟩
      have main : ∀ (R : Ending → World → Prop), (∀ x s', r = .ret x s' → ∀ v w' E', Step E s w E' s' w' → VR E' x v → R (.returned v) w') →
          (∀ x s', r = .panic x s' → ∀ v w' E', Step E s w E' s' w' → VR E' x v → R (.panicked [{ v := v, recovered := false }]) w') → Calls P f ⟨vs⟩ w R := by
        intro R h1 h2
        refine calls_of_wp_defers hfn hb ?_
        unfold finC at hr
        split at hr
        · rename_i o t s1 e1
          refine (exec_ok hm hc n c).go h hG (enter_TR ha hle) e1 fun e a' w' E' hs hta ho => ?_
          split at hr
          · rw [ho.normal]
            exact endC_ok hm hn hc (o := .ret) (u := .returning) hs (hG.mono hs.le) hta rfl hr hfail h1 h2
          · have : e = .ret := by cases e <;> first | rfl | cases ho
            subst this
            exact endC_ok hm hn hc (o := .ret) (u := .returning) hs (hG.mono hs.le) hta rfl hr hfail h1 h2
          · cases e with
            | panic ch =>
              obtain ⟨v, hv, hvr⟩ := ho
              subst hv
              rename_i x2
              exact endC_ok hm hn hc (o := .panic x2) (u := .panicking [{ v := v, recovered := false }]) hs (hG.mono hs.le) hta ⟨v, rfl, hvr⟩ hr hfail h1 h2
            | _ => cases ho
          · exact absurd hr.symm hfail
        · exact absurd hr.symm hfail
      cases r with
      | fail => trivial
      | ret x s' =>
        refine .inl ⟨hent, main _ (fun x2 s2 e v w' E' hs hv => ?_) (fun x2 s2 e => by cases e)⟩
        cases e
        exact ⟨v, E', rfl, hs, hv⟩
      | panic x s' =>
        refine ⟨hent, main _ (fun x2 s2 e => by cases e) (fun x2 s2 e v w' E' hs hv => ?_)⟩
        cases e
        exact ⟨v, E', rfl, hs, hv⟩

/-- What is known of functions by other roads is so. -/
def KnownOk (P : Program) (G : Glob) (X : Known) : Prop := ∀ (f : FuncId) (h : List AV → St → Res), X f = some h →
  ∀ (args : List AV) (s : St) (E : Env) (w : World) (vs : List Value), Rel E s w → GlobOk E G → VRL E args vs → ResOk P E s w f vs (h args s)

theorem callN_ok (hm : P.follows .mixedOrders = true) (hn : NoNG P) {X : Known} (hX : KnownOk P G X) (loops : Nat) : ∀ n, CFok P G (callN P G X loops n)
  | 0 => fun _ _ _ _ _ _ _ _ _ => trivial
  | n + 1 => fun f args s E w vs h hG ha => by
    simp only [callN]
    cases hx : X f with
    | none => exact bodyC_ok hm hn (callN_ok hm hn hX loops n) loops f args s E w vs h hG ha
    | some k => exact hX f k hx args s E w vs h hG ha

/-- A call that returns, for one who asks the model. -/
theorem returns_of_body (hm : P.follows .mixedOrders = true) (hn : NoNG P) {X : Known} (hX : KnownOk P G X) {loops n : Nat} {f : FuncId} {args : List AV} {s s' : St} {E : Env} {w : World} {vs : List Value} {x : AV}
    (h : Rel E s w) (hG : GlobOk E G) (ha : VRL E args vs) (hr : bodyC P G (callN P G X loops n) loops P.funcs[f]? args s = .ret x s') (hb : ∀ fn, P.funcs[f]? = some fn → fn.body.isSome = true) :
    Calls P f ⟨vs⟩ w fun e w' => ∃ v' E', e = .returned v' ∧ Step E s w E' s' w' ∧ VR E' x v' := by
  have := bodyC_ok hm hn (callN_ok hm hn hX loops n) loops f args s E w vs h hG ha
  rw [hr] at this
  rcases this with ⟨_, h2⟩ | ⟨v', w', E', h1, _, _⟩
  · exact h2
  · cases hf : P.funcs[f]? with
    | none => rw [hf] at hr; simp [bodyC] at hr
    | some fn =>
      have h3 := hb fn hf
      have h4 := run_callFunc ⟨fn, hf, h3, hn f fn hf⟩ ⟨vs⟩ w
      rw [h4] at h1
      cases h1
end
end Go.Am
