/- Regions that draw their order, on both sides. -/
import Derived.Test.YtaiddjgpnpbckaaGreatDoorAmRegion
set_option autoImplicit false
namespace Go.Am

section
variable (P : Program) (G : Glob) (callF : CF) (ops : Array Oper) (items : List Item) (t0 : T) (s0 : St)

/-- Where the plan's order has come to behind k operations. -/
def trC : Nat → Option (T × St)
  | 0 => some (t0, s0)
  | k + 1 => match trC k with
    | some (t, s) => match items[k]? with
      | some it => match itemC P G callF ops it t s with
        | .mk .normal t' s' => some (t', s')
        | _ => none
      | none => none
    | none => none
end

section
variable {P : Program} {G : Glob} {callF : CF} {ops : Array Oper} {Q : Exit → Act → World → Prop} {items : List Item} {l : List Plat} {t0 : T} {s0 : St}

theorem tr_succ {k : Nat} {t' : T} {s' : St} (h : trC P G callF ops items t0 s0 (k + 1) = some (t', s')) :
    ∃ t s it, trC P G callF ops items t0 s0 k = some (t, s) ∧ items[k]? = some it ∧ itemC P G callF ops it t s = .mk .normal t' s' := by
  simp only [trC] at h
  split at h
  · rename_i t s hk
    split at h
    · rename_i it hit
      split at h
      · rename_i t1 s1 e
        cases h
        exact ⟨t, s, it, hk, hit, e⟩
      · cases h
    · cases h
  · cases h

theorem tr_down {m : Nat} : ∀ {k : Nat} {x : T × St}, trC P G callF ops items t0 s0 (k + m) = some x → ∃ t s, trC P G callF ops items t0 s0 k = some (t, s) := by
  induction m with
  | zero => intro k x h; exact ⟨x.1, x.2, h⟩
  | succ m ih =>
    intro k x h
    obtain ⟨t, s, it, h1, _⟩ := tr_succ (k := k + m) (t' := x.1) (s' := x.2) h
    exact ih h1

theorem tr_le {k m : Nat} {x : T × St} (h : trC P G callF ops items t0 s0 m = some x) (hle : k ≤ m) : ∃ t s, trC P G callF ops items t0 s0 k = some (t, s) := by
  obtain ⟨d, rfl⟩ := Nat.exists_eq_add_of_le hle
  exact tr_down h

theorem items_end : ∀ (rest : List Item) (k : Nat) {t t' : T} {s s' : St} {o : Out}, items.drop k = rest → k + rest.length = items.length → trC P G callF ops items t0 s0 k = some (t, s) →
    itemsC P G callF ops rest t s = .mk o t' s' → (o = .normal ∧ trC P G callF ops items t0 s0 items.length = some (t', s')) ∨
      ∃ m t1 s1 it, trC P G callF ops items t0 s0 m = some (t1, s1) ∧ items[m]? = some it ∧ itemC P G callF ops it t1 s1 = .mk o t' s' ∧ o ≠ .normal
  | [], k, t, t', s, s', o, _, hl, hk, h => by
    simp only [itemsC, doneC] at h
    cases h
    simp only [List.length_nil, Nat.add_zero] at hl
    exact .inl ⟨rfl, by rw [← hl]; exact hk⟩
  | it :: rest, k, t, t', s, s', o, hd, hl, hk, h => by
    have hit : items[k]? = some it := by
      have : (items.drop k)[0]? = some it := by rw [hd]; rfl
      rw [List.getElem?_drop] at this
      simpa using this
    have hd' : items.drop (k + 1) = rest := by rw [← List.drop_drop, hd]; rfl
    simp only [itemsC, thenC] at h
    split at h
    · rename_i o1 t1 s1 e1
      split at h
      · refine items_end rest (k + 1) hd' (by simp only [List.length_cons] at hl; omega) ?_ h
        simp only [trC, hk, hit, e1]
      · rename_i hne
        cases h
        exact .inr ⟨k, t, s, it, hk, hit, e1, hne⟩
    · cases h

theorem tr_item (hp : PlanOk P ops l items) {k : Nat} {p : Plat} (hl : l[k]? = some p) {t' : T} {s' : St} (h : trC P G callF ops items t0 s0 (k + 1) = some (t', s')) :
    ∃ t s it, trC P G callF ops items t0 s0 k = some (t, s) ∧ items[k]? = some it ∧ it.p = p ∧ ItemRun P G callF ops it t s .normal t' s' := by
  obtain ⟨t, s, it, h1, h2, h3⟩ := tr_succ h
  obtain ⟨it', h4, h5, _⟩ := hp.item k p hl
  rw [h2] at h4; cases h4
  exact ⟨t, s, it, h1, h2, h5, itemC_run h3⟩

theorem at_of_lt {α : Type} {l : List α} {k : Nat} (h : k < l.length) : ∃ p, l[k]? = some p := ⟨l[k], List.getElem?_eq_getElem h⟩

theorem tr_bound (hp : PlanOk P ops l items) {k : Nat} {x : T × St} (h : trC P G callF ops items t0 s0 (k + 1) = some x) : ∃ p, l[k]? = some p := by
  obtain ⟨_, _, it, _, h2, _⟩ := tr_succ (t' := x.1) (s' := x.2) h
  have : k < items.length := by
    rcases Nat.lt_or_ge k items.length with h1 | h1
    · exact h1
    · rw [List.getElem?_eq_none h1] at h2; cases h2
  exact at_of_lt (by rw [← hp.len]; exact this)

theorem tr_frame (hp : PlanOk P ops l items) {k : Nat} {tk : T} {sk : St} (hk : trC P G callF ops items t0 s0 k = some (tk, sk)) {x : Nat} : ∀ (n : Nat) {tm : T} {sm : St},
    trC P G callF ops items t0 s0 (k + n) = some (tm, sm) → (∀ (j : Nat) (p : Plat), k ≤ j → j < k + n → l[j]? = some p → p.dst ≠ some x) → getT (pathOf x) tm = getT (pathOf x) tk ∧ tm.n = tk.n
  | 0, tm, sm, h, _ => by
    rw [Nat.add_zero, hk] at h; cases h; exact ⟨rfl, rfl⟩
  | n + 1, tm, sm, h, hx => by
    obtain ⟨p, hlp⟩ := tr_bound hp (k := k + n) h
    obtain ⟨t, s, it, h1, h2, h3, h4⟩ := tr_item hp hlp (k := k + n) h
    obtain ⟨e1, e2⟩ := tr_frame hp hk n h1 fun j p hj hj2 hp => hx j p hj (by omega) hp
    obtain ⟨f1, f2⟩ := h4.frame rfl
    refine ⟨?_, by rw [f1, e2]⟩
    rw [f2 x (.inl (by rw [h3]; exact hx (k + n) p (by omega) (by omega) hlp)), e1]

theorem tr_frame' (hp : PlanOk P ops l items) {k m : Nat} {tk tm : T} {sk sm : St} (hk : trC P G callF ops items t0 s0 k = some (tk, sk)) (hm : trC P G callF ops items t0 s0 m = some (tm, sm)) (hle : k ≤ m) {x : Nat}
    (hx : ∀ (j : Nat) (p : Plat), k ≤ j → j < m → l[j]? = some p → p.dst ≠ some x) : getT (pathOf x) tm = getT (pathOf x) tk := by
  obtain ⟨d, rfl⟩ := Nat.exists_eq_add_of_le hle
  exact (tr_frame hp hk d hm hx).1

theorem tr_n (hp : PlanOk P ops l items) : ∀ {k : Nat} {tk : T} {sk : St}, trC P G callF ops items t0 s0 k = some (tk, sk) → tk.n = t0.n
  | 0, tk, sk, h => by simp only [trC, Option.some.injEq, Prod.mk.injEq] at h; rw [h.1]
  | k + 1, tk, sk, h => by
    obtain ⟨p, hlp⟩ := tr_bound hp h
    obtain ⟨t, s, it, h1, h2, h3, h4⟩ := tr_item hp hlp h
    rw [(h4.frame rfl).1, tr_n hp h1]

theorem tr_far (hp : PlanOk P ops l items) {x : Nat} (hx : t0.n ≤ x) : ∀ {k : Nat} {tk : T} {sk : St}, trC P G callF ops items t0 s0 k = some (tk, sk) → getT (pathOf x) tk = getT (pathOf x) t0
  | 0, tk, sk, h => by simp only [trC, Option.some.injEq, Prod.mk.injEq] at h; rw [h.1]
  | k + 1, tk, sk, h => by
    obtain ⟨p, hlp⟩ := tr_bound hp h
    obtain ⟨t, s, it, h1, h2, h3, h4⟩ := tr_item hp hlp h
    rw [(h4.frame rfl).2 x (.inr (by rw [tr_n hp h1]; exact hx)), tr_far hp hx h1]

/-- Two that write the same are one. -/
theorem PlanOk.writer (hp : PlanOk P ops l items) {k j : Nat} {p q : Plat} (hk : l[k]? = some p) (hj : l[j]? = some q) {x : Nat} (h1 : p.dst = some x) (h2 : q.dst = some x) : k = j := by
  have := hp.pairs k j p q hk hj
  simp only [pairOk, h1, h2, Bool.and_eq_true, Bool.or_eq_true] at this
  rcases this.2 with h | h
  · exact hp.uniq k j p q hk hj (Nat.eq_of_beq_eq_true h)
  · simp at h

theorem PlanOk.look (hp : PlanOk P ops l items) {k j : Nat} {p q : Plat} (hk : l[k]? = some p) (hj : l[j]? = some q) {x : Nat} (h1 : q.dst = some x) (h2 : x ∈ p.looks) :
    p.bef.testBit q.i = true ∨ (q.bef.testBit p.i = true ∨ k = j) := by
  have := hp.pairs k j p q hk hj
  simp only [pairOk, h1, Bool.and_eq_true, Bool.or_eq_true, hasN_iff.2 h2, Bool.not_true, Bool.false_eq_true, false_or] at this
  rcases this.1 with h | ⟨_, h | h⟩
  · exact .inl h
  · exact .inr (.inl h)
  · exact .inr (.inr (hp.uniq k j p q hk hj (Nat.eq_of_beq_eq_true h)))

/-- What has come up is closed under what is before it. -/
def Closed (ops : Array Oper) (ls : Array Bool) : Prop := ∀ (i : Nat) (o : Oper), ls.getD i false = true → ops[i]? = some o → ∀ e ∈ edgesOf o, ls.getD e false = true

theorem PlanOk.anc (hp : PlanOk P ops l items) {ls : Array Bool} (hc : Closed ops ls) : ∀ (k : Nat) (p : Plat), l[k]? = some p → (∀ e ∈ edgesOf p.o, ls.getD e false = true) → ∀ j, p.bef.testBit j = true → ls.getD j false = true := by
  intro k
  induction k using Nat.strongRecOn with
  | _ k ih =>
    intro p hk he j hj
    obtain ⟨h1, _, _, _, h5⟩ := hp.plat k p hk
    rw [h5, befs_bit h1] at hj
    obtain ⟨e, hem, h | ⟨hlt, h⟩⟩ := hj
    · rw [← h]; exact he e hem
    · have hb : p.bef.testBit e = true := by rw [h5, befs_bit h1]; exact ⟨e, hem, .inl rfl⟩
      obtain ⟨k', q, hlt', hq, hqi⟩ := hp.ord k p hk e hb
      obtain ⟨g1, _, _, _, g5⟩ := hp.plat k' q hq
      rw [← hqi] at h
      rw [← g5] at h
      exact ih k' hlt' q hq (hc q.i q.o (by rw [hqi]; exact he e hem) g1) j h

/-- Where a walk through the operations in some order stands. -/
structure Inv (P : Program) (G : Glob) (callF : CF) (ops : Array Oper) (items : List Item) (l : List Plat) (t0 : T) (s0 : St) (E0 : Env) (w0 : World)
    (m : Nat) (ls : Array Bool) (a : Act) (w : World) (E : Env) (tm : T) (sm : St) (tv : T) : Prop where
  size : ls.size = ops.size
  at_ : trC P G callF ops items t0 s0 m = some (tm, sm)
  done : ∀ (k : Nat) (p : Plat), k < m → l[k]? = some p → p.kd.isEff = true → ls.getD p.i false = true
  lim : ∀ (k : Nat) (p : Plat), l[k]? = some p → ls.getD p.i false = true → k < m
  cl : Closed ops ls
  step : Step E0 s0 w0 E sm w
  glob : GlobOk E G
  tr : TR E tv a
  n : tv.n = t0.n
  ds : tv.ds = tm.ds
  vis1 : ∀ (k : Nat) (p : Plat) (x : Nat), l[k]? = some p → ls.getD p.i false = true → p.dst = some x → getT (pathOf x) tv = getT (pathOf x) tm
  vis0 : ∀ (x : Nat), (∀ (k : Nat) (p : Plat), l[k]? = some p → ls.getD p.i false = true → p.dst ≠ some x) → getT (pathOf x) tv = getT (pathOf x) t0
  mono : ∀ (k k' : Nat) (tk tk' : T) (sk sk' : St), k ≤ k' → k' ≤ m → trC P G callF ops items t0 s0 k = some (tk, sk) → trC P G callF ops items t0 s0 k' = some (tk', sk') → sk.next ≤ sk'.next
  pval : ∀ (k : Nat) (p : Plat) (tk : T) (sk : St), k < m → l[k]? = some p → ls.getD p.i false = false → (p.kd = .pure ∨ p.kd = .read) → trC P G callF ops items t0 s0 k = some (tk, sk) →
    guardC ops p.o.guard tk = some true → ∃ v, opC P G callF p.o tk sm = .val v sm ∧ ∀ d, p.dst = some d → getT (pathOf d) (tk.put d (pathOf d) v) = getT (pathOf d) tm
  pnew : ∀ (k : Nat) (p : Plat) (tk : T) (sk : St), k < m → l[k]? = some p → ls.getD p.i false = false → p.kd = .new → trC P G callF ops items t0 s0 k = some (tk, sk) →
    guardC ops p.o.guard tk = some true → E.loc sk.next = none ∧ s0.next ≤ sk.next ∧ ∃ v ty vals, opC P G callF p.o tk sk = .val v (pushRow sk ty vals) ∧ sm.get sk.next = some (newRow sk ty vals) ∧
      ∀ d, p.dst = some d → getT (pathOf d) (tk.put d (pathOf d) v) = getT (pathOf d) tm

section
variable {E0 E : Env} {w0 w : World} {m : Nat} {ls : Array Bool} {a : Act} {tm tv : T} {sm : St}

/-- What an operation looks at is now as it was in the plan's order. -/
theorem Inv.agree (hp : PlanOk P ops l items) (h : Inv P G callF ops items l t0 s0 E0 w0 m ls a w E tm sm tv) {k : Nat} {p : Plat} (hle : k ≤ m) (hk : l[k]? = some p) (hu : ls.getD p.i false = false)
    (ha : ∀ j, p.bef.testBit j = true → ls.getD j false = true) {tk : T} {sk : St} (htk : trC P G callF ops items t0 s0 k = some (tk, sk)) : ∀ x ∈ p.looks, getT (pathOf x) tv = getT (pathOf x) tk := by
  intro x hx
  have h0 : trC P G callF ops items t0 s0 0 = some (t0, s0) := rfl
  by_cases hq : ∃ (j : Nat) (q : Plat), l[j]? = some q ∧ q.dst = some x
  · obtain ⟨j, q, hj, hqx⟩ := hq
    have none0 : ls.getD q.i false = false → k ≤ j → getT (pathOf x) tv = getT (pathOf x) tk := fun hql hkj => by
      have e1 := h.vis0 x fun k' p' hk' hl' hd' => by
        have := hp.writer hk' hj hd' hqx
        subst this
        rw [hj] at hk'; cases hk'
        rw [hql] at hl'; cases hl'
      have e2 := tr_frame' hp h0 htk (Nat.zero_le k) (x := x) fun j' p' _ hj' hl' hd' => by
        have := hp.writer hl' hj hd' hqx
        omega
      rw [e1, e2]
    rcases hp.look hk hj hqx hx with h1 | h1 | h1
    · have hlq := ha q.i h1
      have e1 := h.vis1 j q x hj hlq hqx
      obtain ⟨j', q', hj', hq', hqi⟩ := hp.ord k p hk q.i h1
      have := hp.uniq j' j q' q hq' hj hqi
      subst this
      have e2 := tr_frame' hp htk h.at_ hle (x := x) fun j2 p2 hj2 _ hl2 hd2 => by
        have := hp.writer hl2 hj hd2 hqx
        omega
      rw [e1, e2]
    · refine none0 ?_ ?_
      · cases hql : ls.getD q.i false with
        | false => rfl
        | true =>
          have := hp.anc h.cl j q hj (h.cl q.i q.o hql (hp.plat j q hj).1) p.i h1
          rw [hu] at this; cases this
      · obtain ⟨k', p', hlt, hp', hpi⟩ := hp.ord j q hj p.i h1
        have := hp.uniq k' k p' p hp' hk hpi
        omega
    · subst h1
      rw [hk] at hj; cases hj
      exact none0 hu (Nat.le_refl _)
  · have e1 := h.vis0 x fun k' p' hk' _ hd' => hq ⟨k', p', hk', hd'⟩
    have e2 := tr_frame' hp h0 htk (Nat.zero_le k) (x := x) fun j' p' _ _ hl' hd' => hq ⟨j', p', hl', hd'⟩
    rw [e1, e2]

theorem looks_ev {p : Plat} (hl : p.looks = p.o.looksAt ops) {t t' : T} (h : ∀ x ∈ p.looks, getT (pathOf x) t = getT (pathOf x) t') : ∀ y ∈ p.o.op.operands, evC G y t = evC G y t' := by
  intro y hy
  cases y with
  | tmp i =>
    refine h i ?_
    rw [hl]
    exact List.mem_append_left _ (List.mem_filterMap.2 ⟨.tmp i, by simpa using hy, rfl⟩)
  | const v => simp only [evC]; cases ofV v <;> rfl
  | global g => simp only [evC]; cases G.at_ g <;> rfl
  | func f => rfl

theorem looks_guard {p : Plat} (hl : p.looks = p.o.looksAt ops) {t t' : T} (h : ∀ x ∈ p.looks, getT (pathOf x) t = getT (pathOf x) t') : guardC ops p.o.guard t = guardC ops p.o.guard t' := by
  cases hg : p.o.guard with
  | none => rfl
  | some g =>
    obtain ⟨j, w⟩ := g
    simp only [guardC]
    cases hd : (ops[j]?).bind (·.dst) with
    | none => rfl
    | some d =>
      have : d ∈ p.looks := by
        rw [hl]
        refine List.mem_append_right _ ?_
        rw [hg]
        simp [hd]
      simp only [h d this]

theorem kd_cases (p : Plat) (h : p.kd.isEff = false) : (p.kd = .pure ∨ p.kd = .read) ∨ p.kd = .new := by
  cases hk : p.kd <;> simp_all [Kd.isEff]

theorem Ext.refl (s : St) : Ext s s := fun _ _ h => h

theorem kept {p : Plat} (hkd : p.kd = kdOf P p.o) (hk : p.kd = .pure ∨ p.kd = .read) {t : T} {s s1 : St} {v : AV} (e : opC P G callF p.o t s = .val v s1) :
    s1 = s ∧ ∀ s', Ext s s' → opC P G callF p.o t s' = .val v s' := by
  rcases hk with hk | hk
  · obtain ⟨h1, h2⟩ := (opC_free (P := P) (G := G) (callF := callF) (o := p.o) (by rw [← hkd]; exact hk)).val e
    exact ⟨h1, fun s' _ => h2 s'⟩
  · exact opC_read (by rw [← hkd]; exact hk) e

/-- The plan's order goes on by one that is no effect. -/
theorem Inv.advance (hp : PlanOk P ops l items) (h : Inv P G callF ops items l t0 s0 E0 w0 m ls a w E tm sm tv) {p : Plat} (hm : l[m]? = some p) (hne : p.kd.isEff = false) {tm' : T} {sm' : St}
    (htr : trC P G callF ops items t0 s0 (m + 1) = some (tm', sm')) : Inv P G callF ops items l t0 s0 E0 w0 (m + 1) ls a w E tm' sm' tv := by
  obtain ⟨t, s, it, h1, h2, h3, h4⟩ := tr_item hp hm htr
  rw [h.at_] at h1; cases h1
  obtain ⟨_, hkd, _, _, _⟩ := hp.plat m p hm
  have hrel := h.step.rel
  -- what may have come of it
  have hst : Step E sm w E sm' w ∧ Ext sm sm' ∧ tm'.ds = tm.ds ∧ (guardC ops p.o.guard tm = some true → ∃ v, opC P G callF p.o tm sm = .val v sm' ∧ tm' = putC p.dst v tm) := by
    subst h3
    cases h4 with
    | unwanted hg => exact ⟨.refl hrel, .refl _, putC_ds, fun e => by rw [hg] at e; cases e⟩
    | plain v s' hg hk e =>
      refine ⟨?_, ?_, putC_ds, fun _ => ⟨v, e, rfl⟩⟩
      · rcases kd_cases it.p hne with hk | hk
        · rw [(kept hkd hk e).1]; exact .refl hrel
        · obtain ⟨mk, ety, vals, _, e2, _⟩ := opC_new (by rw [← hkd]; exact hk) e
          rw [e2]; exact Step.push hrel _ (hrel.wf.push_row ety vals)
      · rcases kd_cases it.p hne with hk | hk
        · rw [(kept hkd hk e).1]; exact .refl _
        · obtain ⟨mk, ety, vals, _, e2, _⟩ := opC_new (by rw [← hkd]; exact hk) e
          rw [e2]; exact Ext.push hrel.wf _
    | val v s' hg hk => rw [hne] at hk; cases hk
    | skip s' hg hk => rw [hne] at hk; cases hk
    | dfr f args s' hg hk => rw [hne] at hk; cases hk
  obtain ⟨g1, g2, g3, g4⟩ := hst
  have hframe : ∀ x, p.dst ≠ some x → getT (pathOf x) tm' = getT (pathOf x) tm := fun x hx => (h4.frame rfl).2 x (.inl (by rw [h3]; exact hx))
  refine ⟨h.size, htr, ?_, ?_, h.cl, h.step.trans g1, h.glob, h.tr, h.n, by rw [h.ds, g3], ?_, h.vis0, ?_, ?_, ?_⟩
  · intro k q hk hl he
    rcases Nat.lt_or_ge k m with h5 | h5
    · exact h.done k q h5 hl he
    · have : k = m := by omega
      subst this; rw [hm] at hl; cases hl; rw [hne] at he; cases he
  · intro k q hl hq
    exact Nat.lt_succ_of_lt (h.lim k q hl hq)
  · intro k q x hl hq hd
    rw [h.vis1 k q x hl hq hd, hframe x fun e => ?_]
    have := hp.writer hl hm hd e
    have := h.lim k q hl hq
    omega
  · intro k k' tk tk' sk sk' hle hle' e1 e2
    rcases Nat.lt_or_ge k' (m + 1) with h5 | h5
    · exact h.mono k k' tk tk' sk sk' hle (by omega) e1 e2
    · have : k' = m + 1 := by omega
      subst this
      rw [htr] at e2; cases e2
      rcases Nat.lt_or_ge k (m + 1) with h6 | h6
      · exact Nat.le_trans (h.mono k m tk tm sk sm (by omega) (Nat.le_refl _) e1 h.at_) g1.next
      · have : k = m + 1 := by omega
        subst this; rw [htr] at e1; cases e1; exact Nat.le_refl _
  · intro k q tk sk hk hl hu hkq e1 hg
    rcases Nat.lt_or_ge k m with h5 | h5
    · obtain ⟨v, e2, e3⟩ := h.pval k q tk sk h5 hl hu hkq e1 hg
      refine ⟨v, (kept (hp.plat k q hl).2.1 hkq e2).2 sm' g2, fun d hd => ?_⟩
      rw [e3 d hd, hframe d fun e => ?_]
      have := hp.writer hl hm hd e
      omega
    · have : k = m := by omega
      subst this
      rw [hm] at hl; cases hl
      rw [h.at_] at e1; cases e1
      obtain ⟨v, e2, e3⟩ := g4 hg
      have e4 := (kept hkd hkq e2).1
      refine ⟨v, by rw [e4] at e2 ⊢; exact e2, fun d hd => ?_⟩
      rw [e3, hd]; rfl
  · intro k q tk sk hk hl hu hkq e1 hg
    rcases Nat.lt_or_ge k m with h5 | h5
    · obtain ⟨e2, e3, v, ety, vals, e4, e5, e6⟩ := h.pnew k q tk sk h5 hl hu hkq e1 hg
      refine ⟨e2, e3, v, ety, vals, e4, g2 _ _ e5, fun d hd => ?_⟩
      rw [e6 d hd, hframe d fun e => ?_]
      have := hp.writer hl hm hd e
      omega
    · have : k = m := by omega
      subst this
      rw [hm] at hl; cases hl
      rw [h.at_] at e1; cases e1
      obtain ⟨v, e2, e3⟩ := g4 hg
      obtain ⟨mk, ety, vals, _, e4, _⟩ := opC_new (by rw [← hkd]; exact hkq) e2
      subst e4
      refine ⟨hrel.loc_fresh, h.step.next, v, ety, vals, e2, ?_, fun d hd => by rw [e3, hd]; rfl⟩
      unfold pushRow; exact get_push_new

theorem Inv.advTo (hp : PlanOk P ops l items) : ∀ (n : Nat) {m : Nat} {tm : T} {sm : St}, Inv P G callF ops items l t0 s0 E0 w0 m ls a w E tm sm tv →
    (∀ (j : Nat) (q : Plat), m ≤ j → j < m + n → l[j]? = some q → q.kd.isEff = false) → ∀ {tk : T} {sk : St}, trC P G callF ops items t0 s0 (m + n) = some (tk, sk) → Inv P G callF ops items l t0 s0 E0 w0 (m + n) ls a w E tk sk tv
  | 0, m, tm, sm, h, _, tk, sk, e => by
    rw [Nat.add_zero, h.at_] at e; cases e; exact h
  | n + 1, m, tm, sm, h, hn, tk, sk, e => by
    obtain ⟨t, s, it, e1, _⟩ := tr_succ (k := m + n) e
    have h1 := Inv.advTo hp n h (fun j q hj hj2 hq => hn j q hj (by omega) hq) e1
    obtain ⟨p, hl⟩ := tr_bound hp (k := m + n) e
    exact h1.advance hp hl (hn (m + n) p (by omega) (by omega) hl) e
end
end
end Go.Am
