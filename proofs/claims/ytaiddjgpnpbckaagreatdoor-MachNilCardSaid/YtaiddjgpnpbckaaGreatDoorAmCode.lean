/- Code, functions, calls, on both sides. -/
import Derived.Test.YtaiddjgpnpbckaaGreatDoorAmDraw3
import Derived.Recover
import Derived.LoopN
import Derived.Laws.Sem
set_option autoImplicit false
namespace Go.Am

section
variable {P : Program} {G : Glob} {callF : CF}

theorem OutR.normal {E : Env} {e : Exit} (h : OutR E .normal e) : e = .normal := by cases e <;> first | rfl | cases h
theorem OutR.ne {E : Env} {o : Out} {e : Exit} (h : OutR E o e) (ho : o ≠ .normal) : e ≠ .normal := by
  rintro rfl; cases o <;> first | exact ho rfl | cases h

theorem then_ne {next : Act → World → Prop} {Q : Exit → Act → World → Prop} {e : Exit} {a : Act} {w : World} (he : e ≠ .normal) (h : Q e a w) : Exit.then next Q e a w := by
  cases e <;> first | exact absurd rfl he | exact h

/-- What runs so is so. -/
structure Sound (P : Program) (G : Glob) (k : K) (c : Code) : Prop where
  go : ∀ {Q : Exit → Act → World → Prop} {t t' : T} {s s' : St} {o : Out} {a : Act} {w : World} {E : Env}, Rel E s w → GlobOk E G → TR E t a → k t s = .mk o t' s' →
    (∀ e a' w' E', Step E s w E' s' w' → TR E' t' a' → OutR E' o e → Q e a' w') → c.wp P Q a w

theorem then_sound {x y : K} {c d : Code} (hx : Sound P G x c) (hy : Sound P G y d) : Sound P G (thenC x y) (.seq c d) := by
  refine ⟨?_⟩
  intro Q t t' s s' o a w E h hG ht hr hQ
  unfold thenC at hr
  split at hr
  · rename_i o1 t1 s1 e1
    refine wp_seq (hx.go h hG ht e1 fun e a1 w1 E1 hs1 ht1 ho1 => ?_)
    split at hr
    · rw [ho1.normal]
      exact hy.go hs1.rel (hG.mono hs1.le) ht1 hr fun e2 a2 w2 E2 hs2 ht2 ho2 => hQ e2 a2 w2 E2 (hs1.trans hs2) ht2 ho2
    · rename_i hne
      cases hr
      exact then_ne (ho1.ne hne) (hQ e a1 w1 E1 hs1 ht1 ho1)
  · cases hr

theorem loop_sound {x : K} {c : Code} (hx : Sound P G x c) : ∀ (n : Nat) {Q : Exit → Act → World → Prop} {t t' : T} {s s' : St} {o : Out} {a : Act} {w : World} {E : Env}, Rel E s w → GlobOk E G → TR E t a →
    loopN x n t s = .mk o t' s' → (∀ e a' w' E', Step E s w E' s' w' → TR E' t' a' → OutR E' o e → Q e a' w') → Code.rounds P c Q n a w
  | 0, Q, t, t', s, s', o, a, w, E, _, _, _, hr, _ => by cases hr
  | n + 1, Q, t, t', s, s', o, a, w, E, h, hG, ht, hr, hQ => by
    simp only [loopN, thenC] at hr
    rw [rounds_succ]
    split at hr
    · rename_i o1 t1 s1 e1
      refine hx.go h hG ht e1 fun e a1 w1 E1 hs1 ht1 ho1 => ?_
      split at hr
      · rw [ho1.normal]
        exact loop_sound hx n hs1.rel (hG.mono hs1.le) ht1 hr fun e2 a2 w2 E2 hs2 ht2 ho2 => hQ e2 a2 w2 E2 (hs1.trans hs2) ht2 ho2
      · rename_i hne
        cases hr
        exact then_ne (ho1.ne hne) (hQ e a1 w1 E1 hs1 ht1 ho1)
    · cases hr

theorem block_sound {x : K} {c : Code} {id : Nat} (hx : Sound P G x c) : Sound P G (blockC id x) (.block id c) := by
  refine ⟨?_⟩
  intro Q t t' s s' o a w E h hG ht hr hQ
  unfold blockC at hr
  split at hr
  · rename_i o1 t1 s1 e1
    refine wp_block (hx.go h hG ht e1 fun e a1 w1 E1 hs1 ht1 ho1 => ?_)
    split at hr
    · rename_i i
      cases e with
      | exit j =>
        have hij : i = j := ho1
        subst hij
        rcases Bool.eq_false_or_eq_true (i.beq id) with hb | hb
        · have := Nat.eq_of_beq_eq_true hb
          subst this
          rw [cond_of_true hb] at hr
          cases hr
          simp only [Exit.inBlock, if_true]
          exact hQ .normal a1 w1 E1 hs1 ht1 trivial
        · have : i ≠ id := fun e => by subst e; simp at hb
          rw [cond_of_false hb] at hr
          cases hr
          simp only [Exit.inBlock, if_neg this]
          exact hQ (.exit i) a1 w1 E1 hs1 ht1 rfl
      | _ => cases ho1
    · rename_i hne
      cases hr
      have hq := hQ e a1 w1 E1 hs1 ht1 ho1
      cases e with
      | exit j => cases o <;> first | exact absurd rfl (hne _) | cases ho1
      | _ => exact hq
  · cases hr

theorem exec_ok (hm : P.follows .mixedOrders = true) (hc : CFok P G callF) (n : Nat) : ∀ c : Code, Sound P G (execC P G callF n c) c
  | .skip => by
    refine ⟨?_⟩
    intro Q t t' s s' o a w E h hG ht hr hQ
    cases hr
    exact wp_skip (hQ .normal a w E (.refl h) ht trivial)
  | .label l => by
    refine ⟨?_⟩
    intro Q t t' s s' o a w E h hG ht hr hQ
    cases hr
    exact wp_label (hQ .normal a w E (.refl h) ht trivial)
  | .region id ops draw => by
    refine ⟨?_⟩
    intro Q t t' s s' o a w E h hG ht hr hQ
    exact region_ok hm hc h hG ht hr hQ
  | .seq x y => then_sound (exec_ok hm hc n x) (exec_ok hm hc n y)
  | .cond c x y => by
    refine ⟨?_⟩
    intro Q t t' s s' o a w E h hG ht hr hQ
    have hx := exec_ok hm hc n x
    have hy := exec_ok hm hc n y
    have hev := evC_ok hG ht c
    simp only [execC, condC] at hr
    split at hr
    · rename_i u e
      rw [e] at hev
      generalize hv : a.eval c = v at hev
      cases hev
      refine wp_cond hv ?_
      cases u with
      | true => exact hx.go h hG ht hr hQ
      | false => exact hy.go h hG ht hr hQ
    · cases hr
  | .block id c => block_sound (exec_ok hm hc n c)
  | .loop c => by
    refine ⟨?_⟩
    intro Q t t' s s' o a w E h hG ht hr hQ
    exact wp_loop_rounds n (loop_sound (exec_ok hm hc n c) n h hG ht hr hQ)
  | .exit id => by
    refine ⟨?_⟩
    intro Q t t' s s' o a w E h hG ht hr hQ
    cases hr
    exact wp_exit (hQ (.exit id) a w E (.refl h) ht rfl)
  | .ret => by
    refine ⟨?_⟩
    intro Q t t' s s' o a w E h hG ht hr hQ
    cases hr
    exact wp_ret (hQ .ret a w E (.refl h) ht trivial)
  | .rangeFunc _ _ _ _ => by refine ⟨?_⟩; intro Q t t' s s' o a w E h hG ht hr hQ; cases hr
  | .scope _ => by refine ⟨?_⟩; intro Q t t' s s' o a w E h hG ht hr hQ; cases hr
  | .goto _ => by refine ⟨?_⟩; intro Q t t' s s' o a w E h hG ht hr hQ; cases hr
  | .refuse _ => by refine ⟨?_⟩; intro Q t t' s s' o a w E h hG ht hr hQ; cases hr

/-! ## Functions -/

theorem setArgs_get {x : Nat} : ∀ (l : List AV) (i : Nat) (t : Tr AV), (setArgs l i t).getP (pathOf x) = if i ≤ x ∧ x < i + l.length then l[x - i]? else t.getP (pathOf x)
  | [], i, t => by simp only [setArgs, List.length_nil]; rw [if_neg (by omega)]
  | v :: l, i, t => by
    simp only [setArgs]
    rw [setArgs_get l (i + 1)]
    simp only [List.length_cons]
    by_cases h1 : x = i
    · subst h1
      rw [if_neg (by omega), if_pos (by omega), Tr.getP_setP_same]; simp
    · rw [Tr.getP_setP_ne _ _ _ _ (fun e => h1 (pathOf_inj e).symm)]
      by_cases h2 : i + 1 ≤ x ∧ x < i + 1 + l.length
      · rw [if_pos h2, if_pos (by omega)]
        rw [show x - i = (x - (i + 1)) + 1 by omega]; simp
      · rw [if_neg h2, if_neg (by omega)]

theorem enter_TR {E : Env} {args : List AV} {vs : List Value} (h : VRL E args vs) {n : Nat} (hn : args.length ≤ n) :
    TR E ⟨setArgs args 0 .nil, n, [], .no⟩ { tmps := (⟨vs⟩ : Array Value) ++ Array.replicate (n - vs.length) undef, defers := [] } := by
  have hl := h.length
  refine ⟨by simp; omega, fun i => ?_, .nil⟩
  unfold getT
  simp only
  rw [setArgs_get]
  by_cases hi : i < args.length
  · rw [if_pos (by omega)]
    obtain ⟨x, hx⟩ : ∃ x, args[i]? = some x := ⟨args[i], List.getElem?_eq_getElem hi⟩
    obtain ⟨v, h1, h2⟩ := h.at_ hx
    rw [Nat.sub_zero, hx]
    simp only
    have : (((⟨vs⟩ : Array Value) ++ Array.replicate (n - vs.length) undef).getD i undef) = v := by
      rw [Array.getD_eq_getD_getElem?, Array.getElem?_append_left (by simp; omega)]
      simp [h1]
    rw [this]; exact h2
  · rw [if_neg (by omega), Tr.getP_nil]; exact .undef _

/-- one result of a function -/
def oneRes (tmps : Array Value) (rv : ResultVar) : Sem Value :=
  match rv with
  | .tmp t => pure (tmps.getD t undef)
  | .cell b t => do loadVar t (← asAddr (tmps.getD b undef))

theorem resOf_ok {E : Env} {s : St} {w : World} {t : T} {a : Act} (h : Rel E s w) (ht : TR E t a) {rv : ResultVar} {x : AV} (hx : resOf P rv t s = some x) :
    ∃ v, VR E x v ∧ (oneRes a.tmps rv).run P w = .ok v w := by
  unfold oneRes
  cases rv with
  | tmp i =>
    simp only [resOf, Option.some.injEq] at hx
    subst hx
    exact ⟨_, ht.val i, rfl⟩
  | cell b ty =>
    simp only [resOf] at hx
    have hb := ht.val b
    cases hs : shapeT P ty with
    | none => rw [hs] at hx; cases hx
    | some sh =>
      cases sh with
      | some n =>
        rw [hs] at hx
        simp only at hx
        obtain ⟨h1, h2⟩ := shapeT_agg hs
        split at hx
        · rename_i l hl
          cases hx
          obtain ⟨b', off, vs, e1, e2, e3, e4⟩ := h.cells hl hb
          refine ⟨.agg ⟨vs⟩, .agg e2, ?_⟩
          have hl : (loadCells ⟨b', off, none⟩ n).run P w = .ok ⟨vs⟩ w := by
            have := run_loadCells_list (P := P) (w := w) ⟨b', off, none⟩ vs (fun j v hj => by rw [Addr.add_lit]; exact e4 j v hj)
            rw [← e2.length, e3] at this
            exact this
          simp [e1, asAddr, loadVar, isAgg_run h1, sizeT_run h2, hl]
        · cases hx
      | none =>
        rw [hs] at hx
        simp only at hx
        have h1 := shapeT_one hs
        obtain ⟨b', off, u, e1, e2, e3⟩ := h.cell1 hx hb
        refine ⟨u, e2, ?_⟩
        simp [e1, asAddr, loadVar, isAgg_run h1, e3]

theorem resultsC_ok {E : Env} {s : St} {w : World} {t : T} {a : Act} (h : Rel E s w) (ht : TR E t a) : ∀ {rs : List ResultVar} {l : List AV}, resultsC P rs t s = some l →
    ∃ vs, VRL E l vs ∧ (rs.mapM (oneRes a.tmps)).run P w = .ok vs w
  | [], l, hl => by
    simp only [resultsC, Option.some.injEq] at hl
    subst hl
    exact ⟨[], .nil, rfl⟩
  | rv :: rs, l, hl => by
    simp only [resultsC] at hl
    split at hl
    · rename_i x q h1 h2
      cases hl
      obtain ⟨v, hv, hr⟩ := resOf_ok h ht h1
      obtain ⟨vs, hvs, hrs⟩ := resultsC_ok h ht h2
      refine ⟨v :: vs, .cons hv hvs, ?_⟩
      rw [List.mapM_cons]
      simp only [Sem.run_bind, hr, Result.andThen_ok, hrs]
      rfl
    · cases hl

theorem results_ok {E : Env} {s : St} {w : World} {t : T} {a : Act} (h : Rel E s w) (ht : TR E t a) {fn : Func} {l : List AV} (hl : resultsC P fn.results.toList t s = some l) :
    ∃ v, VR E (oneC l) v ∧ (results fn a.tmps).run P w = .ok v w := by
  obtain ⟨vs, h1, h2⟩ := resultsC_ok h ht hl
  have hlen := h1.length
  have e : results fn a.tmps = (do
      let vs ← fn.results.mapM (oneRes a.tmps)
      pure (if h : vs.size = 1 then vs[0] else .tuple vs)) := rfl
  rw [e, ← Array.toArray_toList (xs := fn.results), List.mapM_toArray]
  have hm : (List.toArray <$> fn.results.toList.mapM (oneRes a.tmps)).run P w = .ok ⟨vs⟩ w := by
    rw [map_eq_pure_bind, Sem.run_bind, h2]; rfl
  refine ⟨_, ?_, by rw [Sem.run_bind, hm]; rfl⟩
  cases h1 with
  | nil => exact .tup .nil
  | cons h h' =>
    cases h' with
    | nil => exact h
    | cons h'' h3 =>
      simp only [oneC]
      rw [dif_neg (by simp)]
      exact .tup (.cons h (.cons h'' h3))
end
end Go.Am
