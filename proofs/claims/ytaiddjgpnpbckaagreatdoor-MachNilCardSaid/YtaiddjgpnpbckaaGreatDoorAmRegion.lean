/- Regions, on both sides: what every order comes to. -/
import Derived.Test.YtaiddjgpnpbckaaGreatDoorAmPlanOk
set_option autoImplicit false
namespace Go.Am

def OutR (E : Env) : Out → Exit → Prop
  | .normal, .normal => True
  | .exit i, .exit j => i = j
  | .ret, .ret => True
  | .panic x, .panic ch => ∃ v, ch = [{ v := v, recovered := false }] ∧ VR E x v
  | _, _ => False

section
variable {t : T} {dst : Option Nat} {v : AV}
theorem put_n {d : Nat} {p : List Bool} : (t.put d p v).n = t.n := by unfold T.put; cases Nat.blt d t.n <;> rfl
theorem put_ds {d : Nat} {p : List Bool} : (t.put d p v).ds = t.ds := by unfold T.put; cases Nat.blt d t.n <;> rfl
theorem putC_n : (putC dst v t).n = t.n := by cases dst with | none => rfl | some d => exact put_n
theorem putC_ds : (putC dst v t).ds = t.ds := by cases dst with | none => rfl | some d => exact put_ds
theorem put_get_ne {d x : Nat} (h : d ≠ x) : getT (pathOf x) (t.put d (pathOf d) v) = getT (pathOf x) t := by
  unfold T.put
  cases Nat.blt d t.n with
  | false => rfl
  | true => simp only [cond_true, getT]; rw [Tr.getP_setP_ne v _ _ t.tr (fun e => h (pathOf_inj e))]
theorem put_get_same {d : Nat} : getT (pathOf d) (t.put d (pathOf d) v) = if d < t.n then v else getT (pathOf d) t := by
  unfold T.put
  rcases Bool.eq_false_or_eq_true (Nat.blt d t.n) with hb | hb
  · rw [cond_of_true hb, if_pos (show d < t.n from Nat.le_of_ble_eq_true hb)]; simp [getT, Tr.getP_setP_same]
  · rw [cond_of_false hb, if_neg]
    intro h; rw [show Nat.blt d t.n = true from Nat.ble_eq_true_of_le h] at hb; cases hb
theorem putC_get_ne {x : Nat} (h : dst ≠ some x) : getT (pathOf x) (putC dst v t) = getT (pathOf x) t := by
  cases dst with
  | none => rfl
  | some d => exact put_get_ne fun e => h (by rw [e])
end

theorem putC_get_ge {t : T} {dst : Option Nat} {v : AV} {x : Nat} (h : dst ≠ some x ∨ t.n ≤ x) : getT (pathOf x) (Am.putC dst v t) = getT (pathOf x) t := by
  by_cases hd : dst = some x
  · subst hd
    have : ¬ x < t.n := by rcases h with h | h; exact absurd rfl h; omega
    show getT (pathOf x) (t.put x (pathOf x) v) = _
    rw [put_get_same, if_neg this]
  · exact putC_get_ne hd

theorem TR.putC {E : Env} {t : T} {a : Act} (h : TR E t a) (dst : Option Nat) {x : AV} {v : Value} (hv : VR E x v) : TR E (putC dst x t) (a.put dst v) := by
  cases dst with
  | none => exact h
  | some d => exact h.put d hv

theorem vr_undef (E : Env) : VR E (.tup []) Go.undef := .tup .nil

section
variable {P : Program} {G : Glob} {callF : CF} {ops : Array Oper} {Q : Exit → Act → World → Prop}

theorem guard_ok {E : Env} {t : T} {a : Act} (h : TR E t a) {o : Oper} {b : Bool} (hg : guardC ops o.guard t = some b) : Region.wanted o (yielded ops a.tmps) = b := by
  unfold Region.wanted
  cases hgo : o.guard with
  | none => rw [hgo] at hg; simp [guardC] at hg; simp [hg]
  | some g =>
    obtain ⟨j, want⟩ := g
    rw [hgo] at hg
    simp only
    simp only [guardC] at hg
    unfold yielded
    cases hd : (ops[j]?).bind (·.dst) with
    | none => simp only [hd] at hg; simp at hg; simp [hg]
    | some d =>
      simp only [hd] at hg
      have hv := h.val d
      rw [Array.getD_eq_getD_getElem?] at hv
      simp only [Option.bind_some]
      split at hg
      · rename_i b' e
        rw [e] at hv
        cases ht : a.tmps[d]? with
        | none => rw [ht] at hv; simp only [Option.getD_none, undef] at hv; cases hv
        | some u =>
          rw [ht] at hv
          simp only [Option.getD_some] at hv
          cases hv
          cases want <;> cases b' <;> simp_all
      · rename_i e
        rw [e] at hv
        simp only [Option.some.injEq] at hg
        subst hg
        cases ht : a.tmps[d]? with
        | none => simp
        | some u =>
          rw [ht] at hv
          simp only [Option.getD_some] at hv
          cases hv
          simp
      · cases hg

/-- What is to be shown where an operation ends so. -/
def Handle (Q : Exit → Act → World → Prop) (K : Act → World → Prop) (E : Env) (s : St) (w : World) (a : Act) (o : Oper) : Nx → Prop
  | .val x s' => ∀ v' E' w', Step E s w E' s' w' → VR E' x v' → K (a.put o.dst v') w'
  | .skip s' => ∀ E' w', Step E s w E' s' w' → K (a.put o.dst undef) w'
  | .dfr f args s' => s' = s → ∀ d, DfrR E (f, args) d → K ({ a with defers := d :: a.defers }.put o.dst undef) w
  | .panic x s' => ∀ v' E' w', Step E s w E' s' w' → VR E' x v' → Q (.panic [{ v := v', recovered := false }]) a w'
  | .fail => False

theorem wpOp_ok {E : Env} {s : St} {w : World} {a : Act} {o : Oper} {i : Nat} {K : Act → World → Prop} {nx : Nx} (hi : ops[i]? = some o) (hw : Region.wanted o (yielded ops a.tmps) = true)
    (h : OpOk P E s w o a nx) (hh : Handle Q K E s w a o nx) : wpOp P ops Q i K a w := by
  unfold wpOp
  simp only [hi, hw, if_true]
  left
  unfold Oper.wp
  cases nx with
  | val x s' =>
    rcases h with ⟨v', w', E', hr, hs, hv⟩ | ⟨f, args, hr, hc⟩
    · rw [hr]; exact hh v' E' w' hs hv
    · rw [hr]
      exact Calls.mono hc fun e w'' ⟨v', E', he, hs, hv⟩ => by subst he; exact hh v' E' w'' hs hv
  | skip s' =>
    obtain ⟨w', E', hr, hs⟩ := h
    rw [hr]; exact hh E' w' hs
  | dfr f args s' =>
    obtain ⟨e, d, hr, hd⟩ := h
    rw [hr]; exact hh e d hd
  | panic x s' =>
    rcases h with ⟨v', w', E', hr, hs, hv⟩ | ⟨f, args, hr, hc⟩
    · rw [hr]; exact hh v' E' w' hs hv
    · rw [hr]
      exact Calls.mono hc fun e w'' ⟨v', E', he, hs, hv⟩ => by subst he; exact hh v' E' w'' hs hv
  | fail => exact hh.elim

theorem wpOp_unwanted {w : World} {a : Act} {o : Oper} {i : Nat} {K : Act → World → Prop} (hi : ops[i]? = some o) (hw : Region.wanted o (yielded ops a.tmps) = false)
    (h : K (a.put o.dst undef) w) : wpOp P ops Q i K a w := by
  unfold wpOp
  simp only [hi, hw, Bool.false_eq_true, if_false]
  exact h

/-- How one item may go. -/
inductive ItemRun (P : Program) (G : Glob) (callF : CF) (ops : Array Oper) (it : Item) (t : T) (s : St) : Out → T → St → Prop
  | unwanted (hg : guardC ops it.p.o.guard t = some false) : ItemRun P G callF ops it t s .normal (putC it.p.dst (.tup []) t) s
  | plain (v : AV) (s' : St) (hg : guardC ops it.p.o.guard t = some true) (hk : it.p.kd.isEff = false) (h : opC P G callF it.p.o t s = .val v s') : ItemRun P G callF ops it t s .normal (putC it.p.dst v t) s'
  | val (v : AV) (s' : St) (hg : guardC ops it.p.o.guard t = some true) (hk : it.p.kd.isEff = true) (h : opC P G callF it.p.o t s = .val v s')
      (hc : againsC P G callF ops it.chk (putC it.p.dst v t) s' = true) : ItemRun P G callF ops it t s .normal (putC it.p.dst v t) s'
  | skip (s' : St) (hg : guardC ops it.p.o.guard t = some true) (hk : it.p.kd.isEff = true) (h : opC P G callF it.p.o t s = .skip s')
      (hc : againsC P G callF ops it.chk (putC it.p.dst (.tup []) t) s' = true) : ItemRun P G callF ops it t s .normal (putC it.p.dst (.tup []) t) s'
  | dfr (f : FuncId) (args : List AV) (s' : St) (hg : guardC ops it.p.o.guard t = some true) (hk : it.p.kd.isEff = true) (h : opC P G callF it.p.o t s = .dfr f args s')
      (hc : againsC P G callF ops it.chk (putC it.p.dst (.tup []) { t with ds := (f, args) :: t.ds }) s' = true) :
      ItemRun P G callF ops it t s .normal (putC it.p.dst (.tup []) { t with ds := (f, args) :: t.ds }) s'
  | panic (v : AV) (s' : St) (hg : guardC ops it.p.o.guard t = some true) (hk : it.p.kd.isEff = true) (h : opC P G callF it.p.o t s = .panic v s') : ItemRun P G callF ops it t s (.panic v) (maskT it.fl t) s'

theorem itemC_run {it : Item} {t t' : T} {s s' : St} {o : Out} (h : itemC P G callF ops it t s = .mk o t' s') : ItemRun P G callF ops it t s o t' s' := by
  unfold itemC at h
  have key : ∀ (hg : guardC ops it.p.o.guard t = some true), (bif it.p.kd.isEff then runEff (opC P G callF it.p.o) (Am.putC it.p.dst) (againsC P G callF ops it.chk) it.fl else runPlain (opC P G callF it.p.o) (Am.putC it.p.dst)) t s = .mk o t' s' →
      ItemRun P G callF ops it t s o t' s' := by
    intro hg h
    rcases Bool.eq_false_or_eq_true it.p.kd.isEff with hk | hk
    · rw [cond_of_true hk] at h
      unfold runEff goOn at h
      split at h
      · rename_i v s1 e
        rcases Bool.eq_false_or_eq_true (againsC P G callF ops it.chk (Am.putC it.p.dst v t) s1) with hb | hb
        · rw [cond_of_true hb] at h; cases h; exact .val v _ hg hk e hb
        · rw [cond_of_false hb] at h; cases h
      · rename_i s1 e
        rcases Bool.eq_false_or_eq_true (againsC P G callF ops it.chk (Am.putC it.p.dst (.tup []) t) s1) with hb | hb
        · rw [cond_of_true hb] at h; cases h; exact .skip _ hg hk e hb
        · rw [cond_of_false hb] at h; cases h
      · rename_i f args s1 e
        rcases Bool.eq_false_or_eq_true (againsC P G callF ops it.chk (Am.putC it.p.dst (.tup []) { t with ds := (f, args) :: t.ds }) s1) with hb | hb
        · rw [cond_of_true hb] at h; cases h; exact .dfr f args _ hg hk e hb
        · rw [cond_of_false hb] at h; cases h
      · rename_i v s1 e
        cases h; exact .panic v _ hg hk e
      · cases h
    · rw [cond_of_false hk] at h
      unfold runPlain at h
      split at h
      · rename_i v s1 e
        cases h; exact .plain v _ hg hk e
      · cases h
  cases hg : it.p.o.guard with
  | none =>
    simp only [hg] at h
    exact key (by rw [hg]; rfl) h
  | some g =>
    simp only [hg] at h
    unfold runGuard at h
    split at h
    · rename_i b hb
      rw [← hg] at hb
      cases b with
      | true => exact key hb h
      | false => simp only [cond_false] at h; cases h; exact .unwanted hb
    · cases h

theorem ItemRun.frame {it : Item} {t t' : T} {s s' : St} {o : Out} (h : ItemRun P G callF ops it t s o t' s') (ho : o = .normal) : t'.n = t.n ∧ ∀ x, (it.p.dst ≠ some x ∨ t.n ≤ x) → getT (pathOf x) t' = getT (pathOf x) t := by
  cases h with
  | panic => cases ho
  | dfr f args s' => exact ⟨putC_n, fun x hx => putC_get_ge (t := { t with ds := (f, args) :: t.ds }) hx⟩
  | _ => exact ⟨putC_n, fun x hx => putC_get_ge hx⟩

/-! ## Regions that go in the order of their list -/

/-- An effect, or what passes for one. -/
theorem wpOp_item (hc : CFok P G callF) {E : Env} {s s' : St} {w : World} {t t' : T} {a : Act} {it : Item} {i : Nat} {out : Out} (hi : ops[i]? = some it.p.o) (hd : it.p.dst = it.p.o.dst)
    (h : Rel E s w) (hG : GlobOk E G) (ht : TR E t a) (hr : ItemRun P G callF ops it t s out t' s') (hf : it.fl = []) (K : Act → World → Prop)
    (hK : out = .normal → ∀ E' a' w', Step E s w E' s' w' → TR E' t' a' → K a' w')
    (hQ : ∀ x, out = .panic x → ∀ E' w' v', Step E s w E' s' w' → TR E' t' a → VR E' x v' → Q (.panic [{ v := v', recovered := false }]) a w') : wpOp P ops Q i K a w := by
  have hok := opC_ok (o := it.p.o) hc h hG ht
  cases hr with
  | unwanted hg =>
    refine wpOp_unwanted hi (guard_ok ht hg) ?_
    rw [← hd]
    exact hK rfl E _ w (.refl h) (ht.putC _ (vr_undef E))
  | plain v s' hg hk e =>
    rw [e] at hok
    refine wpOp_ok hi (guard_ok ht hg) hok fun v' E' w' hs hv => ?_
    rw [← hd]
    exact hK rfl E' _ w' hs ((ht.mono hs.le).putC _ hv)
  | val v s' hg hk e _ =>
    rw [e] at hok
    refine wpOp_ok hi (guard_ok ht hg) hok fun v' E' w' hs hv => ?_
    rw [← hd]
    exact hK rfl E' _ w' hs ((ht.mono hs.le).putC _ hv)
  | skip s' hg hk e _ =>
    rw [e] at hok
    refine wpOp_ok hi (guard_ok ht hg) hok fun E' w' hs => ?_
    rw [← hd]
    exact hK rfl E' _ w' hs ((ht.mono hs.le).putC _ (vr_undef E'))
  | dfr f args s' hg hk e _ =>
    rw [e] at hok
    refine wpOp_ok hi (guard_ok ht hg) hok fun hss d hd' => ?_
    rw [← hd]
    subst hss
    refine hK rfl E _ w (.refl h) (TR.putC (t := { t with ds := (f, args) :: t.ds }) (a := { a with defers := d :: a.defers }) ?_ _ (vr_undef E))
    exact ⟨ht.size, ht.val, .cons hd' ht.ds⟩
  | panic v s' hg hk e =>
    rw [e] at hok
    refine wpOp_ok hi (guard_ok ht hg) hok fun v' E' w' hs hv => ?_
    refine hQ v rfl E' w' v' hs ?_ hv
    rw [hf]
    exact ht.mono hs.le

theorem plain_ok (hc : CFok P G callF) : ∀ (os : List Oper) (i : Nat), ops.toList.drop i = os → ∀ {E : Env} {s s' : St} {w : World} {t t' : T} {a : Act} {out : Out}, Rel E s w → GlobOk E G → TR E t a →
    itemsC P G callF ops (os.map fun o => ⟨⟨0, o, .eff, 0, o.dst, []⟩, [], []⟩) t s = .mk out t' s' → (∀ e a' w' E', Step E s w E' s' w' → TR E' t' a' → OutR E' out e → Q e a' w') →
    wpOps P ops Q (List.range' i os.length) a w
  | [], i, _, E, s, s', w, t, t', a, out, h, hG, ht, hr, hQ => by
    simp only [List.map_nil, itemsC, doneC] at hr
    cases hr
    exact hQ .normal a w E (.refl h) ht trivial
  | o :: os, i, hd, E, s, s', w, t, t', a, out, h, hG, ht, hr, hQ => by
    have hi : ops[i]? = some o := by
      have : (ops.toList.drop i)[0]? = some o := by rw [hd]; rfl
      rw [List.getElem?_drop] at this
      simpa using this
    have hd' : ops.toList.drop (i + 1) = os := by
      rw [← List.drop_drop, hd]; rfl
    simp only [List.map_cons, itemsC, thenC] at hr
    simp only [List.length_cons, List.range'_succ]
    rw [wpOps_cons]
    split at hr
    · rename_i out1 t1 s1 e1
      have hrun := itemC_run e1
      split at hr
      · refine wpOp_item hc hi rfl h hG ht hrun rfl _ (fun _ E' a' w' hs hta => ?_) (fun x hx => by cases hx)
        exact plain_ok hc os (i + 1) hd' hs.rel (hG.mono hs.le) hta hr fun e a'' w'' E'' hs2 ht2 ho => hQ e a'' w'' E'' (hs.trans hs2) ht2 ho
      · rename_i hne
        cases hr
        refine wpOp_item hc hi rfl h hG ht hrun rfl _ (fun e => absurd e hne) (fun x hx E' w' v' hs hta hv => ?_)
        subst hx
        exact hQ _ a w' E' hs hta ⟨v', rfl, hv⟩
    · cases hr
end
end Go.Am
