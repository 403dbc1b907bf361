/- Regions that draw their order, on both sides. -/
import Derived.Test.YtlibahklbbachaaGreatDoorAmD
import Derived.Recover
import Derived.LoopN
import Derived.Laws.Sem
section
set_option autoImplicit false
namespace Go.Am

section
variable (P : Program) (G : Glob) (callF : CF) (ops : Array Oper) (items : List Item) (t0 : T) (s0 : St)

/-- Where the plan's order has come to behind k operations. -/
def trC : Nat → Option (T × St)
  | 0 => some (t0, s0)
  | k + 1 => match trC k with
    | some (t, s) => match items[k]? with
      | some it => match itemC P G callF ops it t s with
        | .mk .normal t' s' => some (t', s')
        | _ => none
      | none => none
    | none => none
end

section
variable {P : Program} {G : Glob} {callF : CF} {ops : Array Oper} {Q : Exit → Act → World → Prop} {items : List Item} {l : List Plat} {t0 : T} {s0 : St}

theorem tr_succ {k : Nat} {t' : T} {s' : St} (h : trC P G callF ops items t0 s0 (k + 1) = some (t', s')) :
    ∃ t s it, trC P G callF ops items t0 s0 k = some (t, s) ∧ items[k]? = some it ∧ itemC P G callF ops it t s = .mk .normal t' s' := by
  simp only [trC] at h
  split at h
  · rename_i t s hk
    split at h
    · rename_i it hit
      split at h
      · rename_i t1 s1 e
        cases h
        exact ⟨t, s, it, hk, hit, e⟩
      · cases h
    · cases h
  · cases h

theorem tr_down {m : Nat} : ∀ {k : Nat} {x : T × St}, trC P G callF ops items t0 s0 (k + m) = some x → ∃ t s, trC P G callF ops items t0 s0 k = some (t, s) := by
  induction m with
  | zero => intro k x h; exact ⟨x.1, x.2, h⟩
  | succ m ih =>
    intro k x h
    obtain ⟨t, s, it, h1, _⟩ := tr_succ (k := k + m) (t' := x.1) (s' := x.2) h
    exact ih h1

theorem tr_le {k m : Nat} {x : T × St} (h : trC P G callF ops items t0 s0 m = some x) (hle : k ≤ m) : ∃ t s, trC P G callF ops items t0 s0 k = some (t, s) := by
  obtain ⟨d, rfl⟩ := Nat.exists_eq_add_of_le hle
  exact tr_down h

theorem items_end : ∀ (rest : List Item) (k : Nat) {t t' : T} {s s' : St} {o : Out}, items.drop k = rest → k + rest.length = items.length → trC P G callF ops items t0 s0 k = some (t, s) →
    itemsC P G callF ops rest t s = .mk o t' s' → (o = .normal ∧ trC P G callF ops items t0 s0 items.length = some (t', s')) ∨
      ∃ m t1 s1 it, trC P G callF ops items t0 s0 m = some (t1, s1) ∧ items[m]? = some it ∧ itemC P G callF ops it t1 s1 = .mk o t' s' ∧ o ≠ .normal
  | [], k, t, t', s, s', o, _, hl, hk, h => by
    simp only [itemsC, doneC] at h
    cases h
    simp only [List.length_nil, Nat.add_zero] at hl
    exact .inl ⟨rfl, by rw [← hl]; exact hk⟩
  | it :: rest, k, t, t', s, s', o, hd, hl, hk, h => by
    have hit : items[k]? = some it := by
      have : (items.drop k)[0]? = some it := by rw [hd]; rfl
      rw [List.getElem?_drop] at this
      simpa using this
    have hd' : items.drop (k + 1) = rest := by rw [← List.drop_drop, hd]; rfl
    simp only [itemsC, thenC] at h
    split at h
    · rename_i o1 t1 s1 e1
      split at h
      · refine items_end rest (k + 1) hd' (by simp only [List.length_cons] at hl; omega) ?_ h
        simp only [trC, hk, hit, e1]
      · rename_i hne
        cases h
        exact .inr ⟨k, t, s, it, hk, hit, e1, hne⟩
    · cases h

theorem tr_item (hp : PlanOk P ops l items) {k : Nat} {p : Plat} (hl : l[k]? = some p) {t' : T} {s' : St} (h : trC P G callF ops items t0 s0 (k + 1) = some (t', s')) :
    ∃ t s it, trC P G callF ops items t0 s0 k = some (t, s) ∧ items[k]? = some it ∧ it.p = p ∧ ItemRun P G callF ops it t s .normal t' s' := by
  obtain ⟨t, s, it, h1, h2, h3⟩ := tr_succ h
  obtain ⟨it', h4, h5, _⟩ := hp.item k p hl
  rw [h2] at h4; cases h4
  exact ⟨t, s, it, h1, h2, h5, itemC_run h3⟩

theorem at_of_lt {α : Type} {l : List α} {k : Nat} (h : k < l.length) : ∃ p, l[k]? = some p := ⟨l[k], List.getElem?_eq_getElem h⟩

theorem tr_bound (hp : PlanOk P ops l items) {k : Nat} {x : T × St} (h : trC P G callF ops items t0 s0 (k + 1) = some x) : ∃ p, l[k]? = some p := by
  obtain ⟨_, _, it, _, h2, _⟩ := tr_succ (t' := x.1) (s' := x.2) h
  have : k < items.length := by
    rcases Nat.lt_or_ge k items.length with h1 | h1
    · exact h1
    · rw [List.getElem?_eq_none h1] at h2; cases h2
  exact at_of_lt (by rw [← hp.len]; exact this)

theorem tr_frame (hp : PlanOk P ops l items) {k : Nat} {tk : T} {sk : St} (hk : trC P G callF ops items t0 s0 k = some (tk, sk)) {x : Nat} : ∀ (n : Nat) {tm : T} {sm : St},
    trC P G callF ops items t0 s0 (k + n) = some (tm, sm) → (∀ (j : Nat) (p : Plat), k ≤ j → j < k + n → l[j]? = some p → p.dst ≠ some x) → getT (pathOf x) tm = getT (pathOf x) tk ∧ tm.n = tk.n
  | 0, tm, sm, h, _ => by
    rw [Nat.add_zero, hk] at h; cases h; exact ⟨rfl, rfl⟩
  | n + 1, tm, sm, h, hx => by
    obtain ⟨p, hlp⟩ := tr_bound hp (k := k + n) h
    obtain ⟨t, s, it, h1, h2, h3, h4⟩ := tr_item hp hlp (k := k + n) h
    obtain ⟨e1, e2⟩ := tr_frame hp hk n h1 fun j p hj hj2 hp => hx j p hj (by omega) hp
    obtain ⟨f1, f2⟩ := h4.frame rfl
    refine ⟨?_, by rw [f1, e2]⟩
    rw [f2 x (.inl (by rw [h3]; exact hx (k + n) p (by omega) (by omega) hlp)), e1]

theorem tr_frame' (hp : PlanOk P ops l items) {k m : Nat} {tk tm : T} {sk sm : St} (hk : trC P G callF ops items t0 s0 k = some (tk, sk)) (hm : trC P G callF ops items t0 s0 m = some (tm, sm)) (hle : k ≤ m) {x : Nat}
    (hx : ∀ (j : Nat) (p : Plat), k ≤ j → j < m → l[j]? = some p → p.dst ≠ some x) : getT (pathOf x) tm = getT (pathOf x) tk := by
  obtain ⟨d, rfl⟩ := Nat.exists_eq_add_of_le hle
  exact (tr_frame hp hk d hm hx).1

theorem tr_n (hp : PlanOk P ops l items) : ∀ {k : Nat} {tk : T} {sk : St}, trC P G callF ops items t0 s0 k = some (tk, sk) → tk.n = t0.n
  | 0, tk, sk, h => by simp only [trC, Option.some.injEq, Prod.mk.injEq] at h; rw [h.1]
  | k + 1, tk, sk, h => by
    obtain ⟨p, hlp⟩ := tr_bound hp h
    obtain ⟨t, s, it, h1, h2, h3, h4⟩ := tr_item hp hlp h
    rw [(h4.frame rfl).1, tr_n hp h1]

theorem tr_far (hp : PlanOk P ops l items) {x : Nat} (hx : t0.n ≤ x) : ∀ {k : Nat} {tk : T} {sk : St}, trC P G callF ops items t0 s0 k = some (tk, sk) → getT (pathOf x) tk = getT (pathOf x) t0
  | 0, tk, sk, h => by simp only [trC, Option.some.injEq, Prod.mk.injEq] at h; rw [h.1]
  | k + 1, tk, sk, h => by
    obtain ⟨p, hlp⟩ := tr_bound hp h
    obtain ⟨t, s, it, h1, h2, h3, h4⟩ := tr_item hp hlp h
    rw [(h4.frame rfl).2 x (.inr (by rw [tr_n hp h1]; exact hx)), tr_far hp hx h1]

/-- Two that write the same are one. -/
theorem PlanOk.writer (hp : PlanOk P ops l items) {k j : Nat} {p q : Plat} (hk : l[k]? = some p) (hj : l[j]? = some q) {x : Nat} (h1 : p.dst = some x) (h2 : q.dst = some x) : k = j := by
  have := hp.pairs k j p q hk hj
  simp only [pairOk, h1, h2, Bool.and_eq_true, Bool.or_eq_true] at this
  rcases this.2 with h | h
  · exact hp.uniq k j p q hk hj (Nat.eq_of_beq_eq_true h)
  · simp at h

theorem PlanOk.look (hp : PlanOk P ops l items) {k j : Nat} {p q : Plat} (hk : l[k]? = some p) (hj : l[j]? = some q) {x : Nat} (h1 : q.dst = some x) (h2 : x ∈ p.looks) :
    p.bef.testBit q.i = true ∨ (q.bef.testBit p.i = true ∨ k = j) := by
  have := hp.pairs k j p q hk hj
  simp only [pairOk, h1, Bool.and_eq_true, Bool.or_eq_true, hasN_iff.2 h2, Bool.not_true, Bool.false_eq_true, false_or] at this
  rcases this.1 with h | ⟨_, h | h⟩
  · exact .inl h
  · exact .inr (.inl h)
  · exact .inr (.inr (hp.uniq k j p q hk hj (Nat.eq_of_beq_eq_true h)))

/-- What has come up is closed under what is before it. -/
def Closed (ops : Array Oper) (ls : Array Bool) : Prop := ∀ (i : Nat) (o : Oper), ls.getD i false = true → ops[i]? = some o → ∀ e ∈ edgesOf o, ls.getD e false = true

theorem PlanOk.anc (hp : PlanOk P ops l items) {ls : Array Bool} (hc : Closed ops ls) : ∀ (k : Nat) (p : Plat), l[k]? = some p → (∀ e ∈ edgesOf p.o, ls.getD e false = true) → ∀ j, p.bef.testBit j = true → ls.getD j false = true := by
  intro k
  induction k using Nat.strongRecOn with
  | _ k ih =>
    intro p hk he j hj
    obtain ⟨h1, _, _, _, h5⟩ := hp.plat k p hk
    rw [h5, befs_bit h1] at hj
    obtain ⟨e, hem, h | ⟨hlt, h⟩⟩ := hj
    · rw [← h]; exact he e hem
    · have hb : p.bef.testBit e = true := by rw [h5, befs_bit h1]; exact ⟨e, hem, .inl rfl⟩
      obtain ⟨k', q, hlt', hq, hqi⟩ := hp.ord k p hk e hb
      obtain ⟨g1, _, _, _, g5⟩ := hp.plat k' q hq
      rw [← hqi] at h
      rw [← g5] at h
      exact ih k' hlt' q hq (hc q.i q.o (by rw [hqi]; exact he e hem) g1) j h

/-- Where a walk through the operations in some order stands. -/
structure Inv (P : Program) (G : Glob) (callF : CF) (ops : Array Oper) (items : List Item) (l : List Plat) (t0 : T) (s0 : St) (E0 : Env) (w0 : World)
    (m : Nat) (ls : Array Bool) (a : Act) (w : World) (E : Env) (tm : T) (sm : St) (tv : T) : Prop where
  size : ls.size = ops.size
  at_ : trC P G callF ops items t0 s0 m = some (tm, sm)
  done : ∀ (k : Nat) (p : Plat), k < m → l[k]? = some p → p.kd.isEff = true → ls.getD p.i false = true
  lim : ∀ (k : Nat) (p : Plat), l[k]? = some p → ls.getD p.i false = true → k < m
  cl : Closed ops ls
  step : Step E0 s0 w0 E sm w
  glob : GlobOk E G w
  tr : TR E tv a
  n : tv.n = t0.n
  ds : tv.ds = tm.ds
  vis1 : ∀ (k : Nat) (p : Plat) (x : Nat), l[k]? = some p → ls.getD p.i false = true → p.dst = some x → getT (pathOf x) tv = getT (pathOf x) tm
  vis0 : ∀ (x : Nat), (∀ (k : Nat) (p : Plat), l[k]? = some p → ls.getD p.i false = true → p.dst ≠ some x) → getT (pathOf x) tv = getT (pathOf x) t0
  mono : ∀ (k k' : Nat) (tk tk' : T) (sk sk' : St), k ≤ k' → k' ≤ m → trC P G callF ops items t0 s0 k = some (tk, sk) → trC P G callF ops items t0 s0 k' = some (tk', sk') → sk.next ≤ sk'.next
  pval : ∀ (k : Nat) (p : Plat) (tk : T) (sk : St), k < m → l[k]? = some p → ls.getD p.i false = false → (p.kd = .pure ∨ p.kd = .read) → trC P G callF ops items t0 s0 k = some (tk, sk) →
    guardC ops p.o.guard tk = some true → ∃ v, opC P G callF p.o tk sm = .val v sm ∧ ∀ d, p.dst = some d → getT (pathOf d) (tk.put d (pathOf d) v) = getT (pathOf d) tm
  pnew : ∀ (k : Nat) (p : Plat) (tk : T) (sk : St), k < m → l[k]? = some p → ls.getD p.i false = false → p.kd = .new → trC P G callF ops items t0 s0 k = some (tk, sk) →
    guardC ops p.o.guard tk = some true → E.loc sk.next = none ∧ s0.next ≤ sk.next ∧ ∃ v ty vals, opC P G callF p.o tk sk = .val v (pushRow sk ty vals) ∧ sm.get sk.next = some (newRow sk ty vals) ∧
      ∀ d, p.dst = some d → getT (pathOf d) (tk.put d (pathOf d) v) = getT (pathOf d) tm

section
variable {E0 E : Env} {w0 w : World} {m : Nat} {ls : Array Bool} {a : Act} {tm tv : T} {sm : St}

/-- What an operation looks at is now as it was in the plan's order. -/
theorem Inv.agree (hp : PlanOk P ops l items) (h : Inv P G callF ops items l t0 s0 E0 w0 m ls a w E tm sm tv) {k : Nat} {p : Plat} (hle : k ≤ m) (hk : l[k]? = some p) (hu : ls.getD p.i false = false)
    (ha : ∀ j, p.bef.testBit j = true → ls.getD j false = true) {tk : T} {sk : St} (htk : trC P G callF ops items t0 s0 k = some (tk, sk)) : ∀ x ∈ p.looks, getT (pathOf x) tv = getT (pathOf x) tk := by
  intro x hx
  have h0 : trC P G callF ops items t0 s0 0 = some (t0, s0) := rfl
  by_cases hq : ∃ (j : Nat) (q : Plat), l[j]? = some q ∧ q.dst = some x
  · obtain ⟨j, q, hj, hqx⟩ := hq
    have none0 : ls.getD q.i false = false → k ≤ j → getT (pathOf x) tv = getT (pathOf x) tk := fun hql hkj => by
      have e1 := h.vis0 x fun k' p' hk' hl' hd' => by
        have := hp.writer hk' hj hd' hqx
        subst this
        rw [hj] at hk'; cases hk'
        rw [hql] at hl'; cases hl'
      have e2 := tr_frame' hp h0 htk (Nat.zero_le k) (x := x) fun j' p' _ hj' hl' hd' => by
        have := hp.writer hl' hj hd' hqx
        omega
      rw [e1, e2]
    rcases hp.look hk hj hqx hx with h1 | h1 | h1
    · have hlq := ha q.i h1
      have e1 := h.vis1 j q x hj hlq hqx
      obtain ⟨j', q', hj', hq', hqi⟩ := hp.ord k p hk q.i h1
      have := hp.uniq j' j q' q hq' hj hqi
      subst this
      have e2 := tr_frame' hp htk h.at_ hle (x := x) fun j2 p2 hj2 _ hl2 hd2 => by
        have := hp.writer hl2 hj hd2 hqx
        omega
      rw [e1, e2]
    · refine none0 ?_ ?_
      · cases hql : ls.getD q.i false with
        | false => rfl
        | true =>
          have := hp.anc h.cl j q hj (h.cl q.i q.o hql (hp.plat j q hj).1) p.i h1
          rw [hu] at this; cases this
      · obtain ⟨k', p', hlt, hp', hpi⟩ := hp.ord j q hj p.i h1
        have := hp.uniq k' k p' p hp' hk hpi
        omega
    · subst h1
      rw [hk] at hj; cases hj
      exact none0 hu (Nat.le_refl _)
  · have e1 := h.vis0 x fun k' p' hk' _ hd' => hq ⟨k', p', hk', hd'⟩
    have e2 := tr_frame' hp h0 htk (Nat.zero_le k) (x := x) fun j' p' _ _ hl' hd' => hq ⟨j', p', hl', hd'⟩
    rw [e1, e2]

theorem looks_ev {p : Plat} (hl : p.looks = p.o.looksAt ops) {t t' : T} (h : ∀ x ∈ p.looks, getT (pathOf x) t = getT (pathOf x) t') : ∀ y ∈ p.o.op.operands, evC G y t = evC G y t' := by
  intro y hy
  cases y with
  | tmp i =>
    refine h i ?_
    rw [hl]
    exact List.mem_append_left _ (List.mem_filterMap.2 ⟨.tmp i, by simpa using hy, rfl⟩)
  | const v => simp only [evC]; cases ofV v <;> rfl
  | global g => simp only [evC]; cases G.at_ g <;> rfl
  | func f => rfl

theorem looks_guard {p : Plat} (hl : p.looks = p.o.looksAt ops) {t t' : T} (h : ∀ x ∈ p.looks, getT (pathOf x) t = getT (pathOf x) t') : guardC ops p.o.guard t = guardC ops p.o.guard t' := by
  cases hg : p.o.guard with
  | none => rfl
  | some g =>
    obtain ⟨j, w⟩ := g
    simp only [guardC]
    cases hd : (ops[j]?).bind (·.dst) with
    | none => rfl
    | some d =>
      have : d ∈ p.looks := by
        rw [hl]
        refine List.mem_append_right _ ?_
        rw [hg]
        simp [hd]
      simp only [h d this]

theorem kd_cases (p : Plat) (h : p.kd.isEff = false) : (p.kd = .pure ∨ p.kd = .read) ∨ p.kd = .new := by
  cases hk : p.kd <;> simp_all [Kd.isEff]

theorem Ext.refl (s : St) : Ext s s := fun _ _ h => h

theorem kept {p : Plat} (hkd : p.kd = kdOf P p.o) (hk : p.kd = .pure ∨ p.kd = .read) {t : T} {s s1 : St} {v : AV} (e : opC P G callF p.o t s = .val v s1) :
    s1 = s ∧ ∀ s', Ext s s' → opC P G callF p.o t s' = .val v s' := by
  rcases hk with hk | hk
  · obtain ⟨h1, h2⟩ := (opC_free (P := P) (G := G) (callF := callF) (o := p.o) (by rw [← hkd]; exact hk)).val e
    exact ⟨h1, fun s' _ => h2 s'⟩
  · exact opC_read (by rw [← hkd]; exact hk) e

/-- The plan's order goes on by one that is no effect. -/
theorem Inv.advance (hp : PlanOk P ops l items) (h : Inv P G callF ops items l t0 s0 E0 w0 m ls a w E tm sm tv) {p : Plat} (hm : l[m]? = some p) (hne : p.kd.isEff = false) {tm' : T} {sm' : St}
    (htr : trC P G callF ops items t0 s0 (m + 1) = some (tm', sm')) : Inv P G callF ops items l t0 s0 E0 w0 (m + 1) ls a w E tm' sm' tv := by
  obtain ⟨t, s, it, h1, h2, h3, h4⟩ := tr_item hp hm htr
  rw [h.at_] at h1; cases h1
  obtain ⟨_, hkd, _, _, _⟩ := hp.plat m p hm
  have hrel := h.step.rel
  -- what may have come of it
  have hst : Step E sm w E sm' w ∧ Ext sm sm' ∧ tm'.ds = tm.ds ∧ (guardC ops p.o.guard tm = some true → ∃ v, opC P G callF p.o tm sm = .val v sm' ∧ tm' = putC p.dst v tm) := by
    subst h3
    cases h4 with
    | unwanted hg => exact ⟨.refl hrel, .refl _, putC_ds, fun e => by rw [hg] at e; cases e⟩
    | plain v s' hg hk e =>
      refine ⟨?_, ?_, putC_ds, fun _ => ⟨v, e, rfl⟩⟩
      · rcases kd_cases it.p hne with hk | hk
        · rw [(kept hkd hk e).1]; exact .refl hrel
        · obtain ⟨mk, ety, vals, _, e2, _⟩ := opC_new (by rw [← hkd]; exact hk) e
          rw [e2]; exact Step.push hrel _ (hrel.wf.push_row ety vals)
      · rcases kd_cases it.p hne with hk | hk
        · rw [(kept hkd hk e).1]; exact .refl _
        · obtain ⟨mk, ety, vals, _, e2, _⟩ := opC_new (by rw [← hkd]; exact hk) e
          rw [e2]; exact Ext.push hrel.wf _
    | val v s' hg hk => rw [hne] at hk; cases hk
    | skip s' hg hk => rw [hne] at hk; cases hk
    | dfr f args s' hg hk => rw [hne] at hk; cases hk
  obtain ⟨g1, g2, g3, g4⟩ := hst
  have hframe : ∀ x, p.dst ≠ some x → getT (pathOf x) tm' = getT (pathOf x) tm := fun x hx => (h4.frame rfl).2 x (.inl (by rw [h3]; exact hx))
  refine ⟨h.size, htr, ?_, ?_, h.cl, h.step.trans g1, h.glob, h.tr, h.n, by rw [h.ds, g3], ?_, h.vis0, ?_, ?_, ?_⟩
  · intro k q hk hl he
    rcases Nat.lt_or_ge k m with h5 | h5
    · exact h.done k q h5 hl he
    · have : k = m := by omega
      subst this; rw [hm] at hl; cases hl; rw [hne] at he; cases he
  · intro k q hl hq
    exact Nat.lt_succ_of_lt (h.lim k q hl hq)
  · intro k q x hl hq hd
    rw [h.vis1 k q x hl hq hd, hframe x fun e => ?_]
    have := hp.writer hl hm hd e
    have := h.lim k q hl hq
    omega
  · intro k k' tk tk' sk sk' hle hle' e1 e2
    rcases Nat.lt_or_ge k' (m + 1) with h5 | h5
    · exact h.mono k k' tk tk' sk sk' hle (by omega) e1 e2
    · have : k' = m + 1 := by omega
      subst this
      rw [htr] at e2; cases e2
      rcases Nat.lt_or_ge k (m + 1) with h6 | h6
      · exact Nat.le_trans (h.mono k m tk tm sk sm (by omega) (Nat.le_refl _) e1 h.at_) g1.next
      · have : k = m + 1 := by omega
        subst this; rw [htr] at e1; cases e1; exact Nat.le_refl _
  · intro k q tk sk hk hl hu hkq e1 hg
    rcases Nat.lt_or_ge k m with h5 | h5
    · obtain ⟨v, e2, e3⟩ := h.pval k q tk sk h5 hl hu hkq e1 hg
      refine ⟨v, (kept (hp.plat k q hl).2.1 hkq e2).2 sm' g2, fun d hd => ?_⟩
      rw [e3 d hd, hframe d fun e => ?_]
      have := hp.writer hl hm hd e
      omega
    · have : k = m := by omega
      subst this
      rw [hm] at hl; cases hl
      rw [h.at_] at e1; cases e1
      obtain ⟨v, e2, e3⟩ := g4 hg
      have e4 := (kept hkd hkq e2).1
      refine ⟨v, by rw [e4] at e2 ⊢; exact e2, fun d hd => ?_⟩
      rw [e3, hd]; rfl
  · intro k q tk sk hk hl hu hkq e1 hg
    rcases Nat.lt_or_ge k m with h5 | h5
    · obtain ⟨e2, e3, v, ety, vals, e4, e5, e6⟩ := h.pnew k q tk sk h5 hl hu hkq e1 hg
      refine ⟨e2, e3, v, ety, vals, e4, g2 _ _ e5, fun d hd => ?_⟩
      rw [e6 d hd, hframe d fun e => ?_]
      have := hp.writer hl hm hd e
      omega
    · have : k = m := by omega
      subst this
      rw [hm] at hl; cases hl
      rw [h.at_] at e1; cases e1
      obtain ⟨v, e2, e3⟩ := g4 hg
      obtain ⟨mk, ety, vals, _, e4, _⟩ := opC_new (by rw [← hkd]; exact hkq) e2
      subst e4
      refine ⟨hrel.loc_fresh, h.step.next, v, ety, vals, e2, ?_, fun d hd => by rw [e3, hd]; rfl⟩
      unfold pushRow; exact get_push_new

theorem Inv.advTo (hp : PlanOk P ops l items) : ∀ (n : Nat) {m : Nat} {tm : T} {sm : St}, Inv P G callF ops items l t0 s0 E0 w0 m ls a w E tm sm tv →
    (∀ (j : Nat) (q : Plat), m ≤ j → j < m + n → l[j]? = some q → q.kd.isEff = false) → ∀ {tk : T} {sk : St}, trC P G callF ops items t0 s0 (m + n) = some (tk, sk) → Inv P G callF ops items l t0 s0 E0 w0 (m + n) ls a w E tk sk tv
  | 0, m, tm, sm, h, _, tk, sk, e => by
    rw [Nat.add_zero, h.at_] at e; cases e; exact h
  | n + 1, m, tm, sm, h, hn, tk, sk, e => by
    obtain ⟨t, s, it, e1, _⟩ := tr_succ (k := m + n) e
    have h1 := Inv.advTo hp n h (fun j q hj hj2 hq => hn j q hj (by omega) hq) e1
    obtain ⟨p, hl⟩ := tr_bound hp (k := m + n) e
    exact h1.advance hp hl (hn (m + n) p (by omega) (by omega) hl) e
end
end
end Go.Am
end
section
set_option autoImplicit false
namespace Go.Am

/-- A row that is there, and nowhere yet, comes to lie in a new block. -/
theorem Step.late {E0 E : Env} {s0 s : St} {w0 w : World} (h : Step E0 s0 w0 E s w) {r : Nat} {o : Row} (hr : s.get r = some (.row o)) (hn : E.loc r = none) (h0 : s0.next ≤ r) {vs : List Value} (hv : VRL E o.vals vs)
    (c : Array Value) (hc : ∀ (i : Nat) (v : Value), vs[i]? = some v → c[i]? = some v) (hl : o.vals.length ≤ c.size) :
    E.le (E.add r w.heap.size 0 c.size) ∧ Step E0 s0 w0 (E.add r w.heap.size 0 c.size) s (w.alloc (.cells c o.ty)) := by
  obtain ⟨hle, hrel⟩ := h.rel.map_new hr hn hv c hc hl
  refine ⟨hle, h.le.trans hle, fun q hq => by rw [Env.add_ne (by omega)]; exact h.old q hq, ?_, hrel, h.un, h.next, fun b hb hno hno2 => ?_, h.os, h.tape, h.output, ?_, h.owns, h.hids⟩
  · intro q b base e
    rcases Env.add_loc e with ⟨_, h3⟩ | ⟨_, h3⟩
    · cases h3; exact .inl h.size
    · exact h.new q b base h3
  · rw [heap_alloc_old w _ b (Nat.lt_of_lt_of_le hb h.size)]; exact h.fr b hb hno hno2
  · have := h.size
    simp; omega

theorem newRow_inj {s : St} {ta tb : TypeId} {a b : List AV} (h : pushRow s ta a = pushRow s tb b) : a = b ∧ ta = tb := by
  have := congrArg (fun x => x.get s.next) h
  unfold pushRow at this
  simp only [get_push_new] at this
  simp only [newRow, Option.some.injEq, AObj.row.injEq, Row.mk.injEq] at this
  exact ⟨this.1, this.2.2.2.2.2.2.2⟩

theorem set_get {ls : Array Bool} {i j : Nat} (h : i < ls.size) : (ls.setIfInBounds i true).getD j false = if i = j then true else ls.getD j false := by
  by_cases e : i = j
  · subst e; simp [h]
  · rw [if_neg e]; exact getD_set_ne false e

theorem maskT_n : ∀ {fl : List Nat} {t : T}, (maskT fl t).n = t.n
  | [], _ => rfl
  | d :: l, t => by simp only [maskT]; rw [maskT_n, put_n]
theorem maskT_ds : ∀ {fl : List Nat} {t : T}, (maskT fl t).ds = t.ds
  | [], _ => rfl
  | d :: l, t => by simp only [maskT]; rw [maskT_ds, put_ds]
theorem maskT_get {x : Nat} : ∀ {fl : List Nat} {t : T}, getT (pathOf x) (maskT fl t) = .undef ∨ (getT (pathOf x) (maskT fl t) = getT (pathOf x) t ∧ (x ∈ fl → t.n ≤ x))
  | [], t => .inr ⟨rfl, by simp⟩
  | d :: l, t => by
    simp only [maskT]
    rcases maskT_get (x := x) (fl := l) (t := t.put d (pathOf d) .undef) with h | ⟨h1, h2⟩
    · exact .inl h
    · by_cases e : d = x
      · subst e
        rw [h1, put_get_same]
        by_cases hn : d < t.n
        · rw [if_pos hn]; exact .inl rfl
        · rw [if_neg hn]; exact .inr ⟨rfl, fun _ => by omega⟩
      · rw [h1, put_get_ne e]
        rw [put_n] at h2
        refine .inr ⟨rfl, fun hm => ?_⟩
        rcases List.mem_cons.1 hm with h3 | h3
        · exact absurd h3.symm e
        · exact h2 h3

section
variable {P : Program} {G : Glob} {callF : CF} {ops : Array Oper} {Q : Exit → Act → World → Prop} {items : List Item} {l : List Plat} {t0 : T} {s0 : St}
variable {E0 E : Env} {w0 w : World} {m : Nat} {ls : Array Bool} {a : Act} {tm tv : T} {sm : St}

/-- The slot of one that comes late holds what the plan's order has put there. -/
theorem slot_late (hp : PlanOk P ops l items) (h : Inv P G callF ops items l t0 s0 E0 w0 m ls a w E tm sm tv) {k : Nat} {p : Plat} (hk : l[k]? = some p) (hu : ls.getD p.i false = false) {tk : T} {sk : St}
    (htk : trC P G callF ops items t0 s0 k = some (tk, sk)) {v : AV} {x : Nat} (hd : p.dst = some x) (hv : getT (pathOf x) (tk.put x (pathOf x) v) = getT (pathOf x) tm) :
    getT (pathOf x) (tv.put x (pathOf x) v) = getT (pathOf x) tm := by
  rw [put_get_same] at hv ⊢
  rw [tr_n hp htk] at hv
  rw [h.n]
  by_cases hn : x < t0.n
  · rw [if_pos hn] at hv ⊢; exact hv
  · rw [if_neg hn] at hv ⊢
    rw [← hv, tr_far hp (by omega) htk]
    refine h.vis0 x fun k' p' hk' hl' hd' => ?_
    have := hp.writer hk' hk hd' hd
    subst this
    rw [hk] at hk'; cases hk'
    rw [hu] at hl'; cases hl'

theorem Inv.listed (hp : PlanOk P ops l items) (h : Inv P G callF ops items l t0 s0 E0 w0 m ls a w E tm sm tv) {k : Nat} {p : Plat} (hlt : k < m) (hk : l[k]? = some p) (hu : ls.getD p.i false = false)
    (he : ∀ e ∈ edgesOf p.o, ls.getD e false = true) {tk : T} {sk : St} (htk : trC P G callF ops items t0 s0 k = some (tk, sk)) {E' : Env} {a' : Act} {w' : World} {v : AV}
    (hs : Step E0 s0 w0 E' sm w') (hG : GlobOk E' G w') (ht : TR E' (putC p.dst v tv) a') (hv : ∀ d, p.dst = some d → getT (pathOf d) (tk.put d (pathOf d) v) = getT (pathOf d) tm)
    (hloc : ∀ (k' : Nat) (q : Plat) (tk' : T) (sk' : St), k' < m → k' ≠ k → l[k']? = some q → ls.getD q.i false = false → q.kd = .new → trC P G callF ops items t0 s0 k' = some (tk', sk') →
      guardC ops q.o.guard tk' = some true → E'.loc sk'.next = none) :
    Inv P G callF ops items l t0 s0 E0 w0 m (ls.setIfInBounds p.i true) a' w' E' tm sm (putC p.dst v tv) := by
  have hpi : p.i < ls.size := by
    have := (hp.plat k p hk).1
    rw [h.size]
    exact (Array.getElem?_eq_some_iff.1 this).1
  have hls : ∀ j, ls.getD j false = true → (ls.setIfInBounds p.i true).getD j false = true := fun j hj => by rw [set_get hpi]; split <;> first | rfl | exact hj
  have hun : ∀ (k' : Nat) (q : Plat), l[k']? = some q → (ls.setIfInBounds p.i true).getD q.i false = false → ls.getD q.i false = false ∧ k' ≠ k := fun k' q hq hl => by
    rw [set_get hpi] at hl
    split at hl
    · cases hl
    · rename_i hne
      refine ⟨hl, fun e => ?_⟩
      subst e; rw [hk] at hq; cases hq; exact hne rfl
  have hin : ∀ (k' : Nat) (q : Plat), l[k']? = some q → (ls.setIfInBounds p.i true).getD q.i false = true → k' = k ∨ ls.getD q.i false = true := fun k' q hq hl => by
    rw [set_get hpi] at hl
    split at hl
    · rename_i e; exact .inl (hp.uniq k' k q p hq hk e.symm)
    · exact .inr hl
  refine ⟨by simp [h.size], h.at_, fun k' q h1 h2 h3 => hls _ (h.done k' q h1 h2 h3), ?_, ?_, hs, hG, ht, by rw [putC_n, h.n], by rw [putC_ds, h.ds], ?_, ?_, h.mono, ?_, ?_⟩
  · intro k' q hq hl
    rcases hin k' q hq hl with h1 | h1
    · omega
    · exact h.lim k' q hq h1
  · intro i o hi ho e hem
    rw [set_get hpi] at hi
    split at hi
    · rename_i e1
      subst e1
      rw [(hp.plat k p hk).1] at ho
      cases ho
      exact hls _ (he e hem)
    · exact hls _ (h.cl i o hi ho e hem)
  · intro k' q x hq hl hd
    rcases hin k' q hq hl with h1 | h1
    · subst h1
      rw [hk] at hq; cases hq
      have := slot_late hp h hk hu htk hd (hv x hd)
      rw [hd]; exact this
    · rw [putC_get_ne fun e => ?_]
      · exact h.vis1 k' q x hq h1 hd
      · have := hp.writer hq hk hd e
        subst this
        rw [hk] at hq; cases hq
        rw [hu] at h1; cases h1
  · intro x hx
    rw [putC_get_ne fun e => hx k p hk (by rw [set_get hpi, if_pos rfl]) e]
    exact h.vis0 x fun k' q hq hl => hx k' q hq (hls _ hl)
  · intro k' q tk' sk' h1 h2 h3 h4 h5 h6
    exact h.pval k' q tk' sk' h1 h2 (hun k' q h2 h3).1 h4 h5 h6
  · intro k' q tk' sk' h1 h2 h3 h4 h5 h6
    obtain ⟨g1, g2⟩ := hun k' q h2 h3
    obtain ⟨_, f2⟩ := h.pnew k' q tk' sk' h1 h2 g1 h4 h5 h6
    exact ⟨hloc k' q tk' sk' h1 g2 h2 g1 h4 h5 h6, f2⟩

theorem edges_anc (hp : PlanOk P ops l items) (h : Inv P G callF ops items l t0 s0 E0 w0 m ls a w E tm sm tv) {k : Nat} {p : Plat} (hk : l[k]? = some p) (he : ∀ e ∈ edgesOf p.o, ls.getD e false = true) :
    ∀ j, p.bef.testBit j = true → ls.getD j false = true := hp.anc h.cl k p hk he

theorem next_lt (hp : PlanOk P ops l items) (h : Inv P G callF ops items l t0 s0 E0 w0 m ls a w E tm sm tv) {k k' : Nat} {q : Plat} {tk tk' : T} {sk sk' : St} (hlt : k < k') (hle : k' ≤ m) (hq : l[k]? = some q)
    (hkd : q.kd = .new) (h1 : trC P G callF ops items t0 s0 k = some (tk, sk)) (hg : guardC ops q.o.guard tk = some true) (h2 : trC P G callF ops items t0 s0 k' = some (tk', sk')) : sk.next < sk'.next := by
  obtain ⟨t1, s1, e1⟩ := tr_le h2 (show k + 1 ≤ k' by omega)
  obtain ⟨t, s, it, g1, g2, g3, g4⟩ := tr_item hp hq e1
  rw [h1] at g1; cases g1
  have hn : sk.next + 1 = s1.next := by
    cases g4 with
    | unwanted hg' => rw [g3, hg] at hg'; cases hg'
    | plain v s' _ hk e =>
      rw [g3] at e
      obtain ⟨mk, ety, vals, _, e2, _⟩ := opC_new (by rw [← (hp.plat k q hq).2.1]; exact hkd) e
      rw [e2]; rfl
    | val v s' _ hk => rw [g3, hkd] at hk; cases hk
    | skip s' _ hk => rw [g3, hkd] at hk; cases hk
    | dfr f args s' _ hk => rw [g3, hkd] at hk; cases hk
  have := h.mono (k + 1) k' t1 tk' s1 sk' (by omega) hle e1 h2
  omega

/-- One that is no effect, and is behind the plan's order, comes up. -/
theorem Inv.pend (hc : CFok P G callF) (hp : PlanOk P ops l items) (h : Inv P G callF ops items l t0 s0 E0 w0 m ls a w E tm sm tv) {k : Nat} {p : Plat} (hlt : k < m) (hk : l[k]? = some p) (hu : ls.getD p.i false = false)
    (he : ∀ e ∈ edgesOf p.o, ls.getD e false = true) :
    wpOp P ops Q p.i (fun a' w' => ∃ E' tv', Inv P G callF ops items l t0 s0 E0 w0 m (ls.setIfInBounds p.i true) a' w' E' tm sm tv') a w := by
  obtain ⟨hop, hkd, hdst, hlooks, _⟩ := hp.plat k p hk
  have hne : p.kd.isEff = false := by
    cases hx : p.kd.isEff with
    | false => rfl
    | true => rw [h.done k p hlt hk hx] at hu; cases hu
  obtain ⟨t1, s1, e1⟩ := tr_le h.at_ (show k + 1 ≤ m by omega)
  obtain ⟨tk, sk, it, htk, g2, g3, g4⟩ := tr_item hp hk e1
  have hag := h.agree hp (Nat.le_of_lt hlt) hk hu (edges_anc hp h hk he) htk
  have hgd := looks_guard hlooks hag
  have hdep : ∀ s, opC P G callF p.o tv s = opC P G callF p.o tk s := fun s => opC_dep (hp.nosel _ _ hop) (looks_ev hlooks hag)
  have hslot : ∀ v, t1 = putC p.dst v tk → ∀ d, p.dst = some d → getT (pathOf d) (tk.put d (pathOf d) v) = getT (pathOf d) tm := fun v e d hd => by
    rw [tr_frame' hp e1 h.at_ (by omega) fun j q hj _ hq hqd => ?_, e, hd]; rfl
    have := hp.writer hq hk hqd hd
    omega
  have hlocs : ∀ (k' : Nat) (q : Plat) (tk' : T) (sk' : St), k' < m → k' ≠ k → l[k']? = some q → ls.getD q.i false = false → q.kd = .new → trC P G callF ops items t0 s0 k' = some (tk', sk') →
      guardC ops q.o.guard tk' = some true → E.loc sk'.next = none ∧ sk'.next < sm.next := fun k' q tk' sk' h1 _ h2 h3 h4 h5 h6 => by
    obtain ⟨f1, _, _, _, vals, _, f2, _⟩ := h.pnew k' q tk' sk' h1 h2 h3 h4 h5 h6
    exact ⟨f1, h.step.rel.wf.lt f2⟩
  subst g3
  cases g4 with
  | unwanted hg =>
    refine wpOp_unwanted hop (guard_ok h.tr (by rw [hgd]; exact hg)) ?_
    rw [← hdst]
    exact ⟨E, _, h.listed hp hlt hk hu he htk h.step h.glob (h.tr.putC _ (vr_undef E)) (hslot _ rfl) fun k' q tk' sk' h1 h2 h3 h4 h5 h6 h7 => (hlocs k' q tk' sk' h1 h2 h3 h4 h5 h6 h7).1⟩
  | plain v s' hg _ e =>
    have hwant := guard_ok h.tr (o := it.p.o) (b := true) (by rw [hgd]; exact hg)
    rcases kd_cases it.p hne with hkk | hkk
    · obtain ⟨v2, e2, e3⟩ := h.pval k it.p tk sk hlt hk hu hkk htk hg
      have hok := opC_ok (o := it.p.o) hc h.step.rel h.glob h.tr
      rw [hdep, e2] at hok
      refine wpOp_ok hop hwant hok fun v' E' w' hs hv => ?_
      rw [← hdst]
      refine ⟨E', _, h.listed hp hlt hk hu he htk (h.step.trans hs) (h.glob.step h.step.rel hs) ((h.tr.mono hs.le).putC _ hv) e3 fun k' q tk' sk' h1 h2 h3 h4 h5 h6 h7 => ?_⟩
      obtain ⟨f1, f2⟩ := hlocs k' q tk' sk' h1 h2 h3 h4 h5 h6 h7
      rw [hs.old _ f2]; exact f1
    · obtain ⟨f1, f2, v2, ety, vals, f3, f4, f5⟩ := h.pnew k it.p tk sk hlt hk hu hkk htk hg
      obtain ⟨mk, ety', vals', n1, n2, n3⟩ := opC_new (P := P) (G := G) (callF := callF) (o := it.p.o) (t := tv) (by rw [← hkd]; exact hkk) (by rw [hdep]; exact f3)
      obtain ⟨n4, n5⟩ := newRow_inj n2
      subst n4 n5
      obtain ⟨vs, c, x, r1, r2, r3, r4, r5⟩ := n3 E w a h.glob h.tr
      obtain ⟨hle, hs⟩ := h.step.late f4 f1 f2 r1 c r2 r3
      unfold wpOp
      simp only [hop, hwant, if_true]
      left
      unfold Oper.wp
      rw [r4, Oper.upon_value, ← hdst]
      have hv : VR (E.add sk.next w.heap.size 0 c.size) v2 x := by
        rw [n1]; exact r5 _ _ (Env.add_self _ _ _ _ _) (by simp [Env.add])
      refine ⟨_, _, h.listed hp hlt hk hu he htk hs (h.glob.grown hle fun b hb => by show (w.heap.push _)[b]? = _; rw [Array.getElem?_push, if_neg (by omega)]) ((h.tr.mono hle).putC _ hv) f5 fun k' q tk' sk' h1 h2 h3 h4 h5 h6 h7 => ?_⟩
      obtain ⟨i1, _⟩ := hlocs k' q tk' sk' h1 h2 h3 h4 h5 h6 h7
      rw [Env.add_ne]
      · exact i1
      · rcases Nat.lt_or_ge k' k with h8 | h8
        · have := next_lt hp h h8 (Nat.le_of_lt hlt) h3 h5 h6 h7 htk
          omega
        · have := next_lt hp h (show k < k' by omega) (Nat.le_of_lt h1) hk hkk htk hg h6
          omega
  | val v s' _ hk' => rw [hne] at hk'; cases hk'
  | skip s' _ hk' => rw [hne] at hk'; cases hk'
  | dfr f args s' _ hk' => rw [hne] at hk'; cases hk'
end
end Go.Am
end
section
set_option autoImplicit false
namespace Go.Am

section
variable {P : Program} {G : Glob} {callF : CF} {ops : Array Oper} {Q : Exit → Act → World → Prop} {items : List Item} {l : List Plat} {t0 : T} {s0 : St}
variable {E0 E : Env} {w0 w : World} {m : Nat} {ls : Array Bool} {a : Act} {tm tv : T} {sm : St}

theorem againsC_mem {o : Oper} {t : T} {s : St} : ∀ {chk : List Oper}, againsC P G callF ops chk t s = true → o ∈ chk → againC P G callF ops o t s = true
  | [], _, h => by cases h
  | q :: l, hc, h => by
    simp only [againsC, Bool.and_eq_true] at hc
    rcases List.mem_cons.1 h with rfl | h
    · exact hc.1
    · exact againsC_mem hc.2 h

/-- What a read done once more shows. -/
theorem againC_val {o : Oper} {t : T} {s : St} (h : againC P G callF ops o t s = true) (hg : guardC ops o.guard t = some true) :
    ∃ v s', opC P G callF o t s = .val v s' ∧ ∀ d, o.dst = some d → v = getT (pathOf d) t := by
  unfold againC at h
  cases hd : o.dst with
  | none =>
    simp only [hd, hg, cond_true] at h
    split at h
    · rename_i v s' e; exact ⟨v, s', e, fun d hd => by cases hd⟩
    · cases h
  | some d =>
    simp only [hd, hg, cond_true] at h
    split at h
    · rename_i v s' e
      exact ⟨v, s', e, fun d' hd' => by cases hd'; exact AV.same_eq h⟩
    · cases h

/-- Behind an effect. -/
theorem Inv.next (hp : PlanOk P ops l items) (h : Inv P G callF ops items l t0 s0 E0 w0 m ls a w E tm sm tv) {p : Plat} (hm : l[m]? = some p) (hu : ls.getD p.i false = false)
    (he : ∀ e ∈ edgesOf p.o, ls.getD e false = true) (heff : p.kd.isEff = true) {it : Item} (hit : items[m]? = some it) {t' : T} {s' : St} (htr : trC P G callF ops items t0 s0 (m + 1) = some (t', s'))
    {E' : Env} {a' : Act} {w' : World} {tv' : T} (hs : Step E sm w E' s' w') (ht : TR E' tv' a') (hn : tv'.n = t0.n) (hds : tv'.ds = t'.ds)
    (hne : ∀ x, p.dst ≠ some x → getT (pathOf x) tv' = getT (pathOf x) tv) (hd : ∀ x, p.dst = some x → getT (pathOf x) tv' = getT (pathOf x) t')
    (hck : s' = sm ∨ againsC P G callF ops it.chk t' s' = true) :
    Inv P G callF ops items l t0 s0 E0 w0 (m + 1) (ls.setIfInBounds p.i true) a' w' E' t' s' tv' := by
  have hpi : p.i < ls.size := by
    have := (hp.plat m p hm).1
    rw [h.size]
    exact (Array.getElem?_eq_some_iff.1 this).1
  have hls : ∀ j, ls.getD j false = true → (ls.setIfInBounds p.i true).getD j false = true := fun j hj => by rw [set_get hpi]; split <;> first | rfl | exact hj
  have hun : ∀ (k' : Nat) (q : Plat), l[k']? = some q → (ls.setIfInBounds p.i true).getD q.i false = false → ls.getD q.i false = false ∧ k' ≠ m := fun k' q hq hl => by
    rw [set_get hpi] at hl
    split at hl
    · cases hl
    · rename_i hne
      refine ⟨hl, fun e => ?_⟩
      subst e; rw [hm] at hq; cases hq; exact hne rfl
  have hin : ∀ (k' : Nat) (q : Plat), l[k']? = some q → (ls.setIfInBounds p.i true).getD q.i false = true → k' = m ∨ ls.getD q.i false = true := fun k' q hq hl => by
    rw [set_get hpi] at hl
    split at hl
    · rename_i e; exact .inl (hp.uniq k' m q p hq hm e.symm)
    · exact .inr hl
  obtain ⟨t1, s1, it1, g1, g2, g3, g4⟩ := tr_item hp hm htr
  rw [h.at_] at g1; cases g1
  have hframe : ∀ x, p.dst ≠ some x → getT (pathOf x) t' = getT (pathOf x) tm := fun x hx => (g4.frame rfl).2 x (.inl (by rw [g3]; exact hx))
  have hanc := edges_anc hp h hm he
  refine ⟨by simp [h.size], htr, ?_, ?_, ?_, h.step.trans hs, h.glob.step h.step.rel hs, ht, hn, hds, ?_, ?_, ?_, ?_, ?_⟩
  · intro k q hk hq hqe
    rcases Nat.lt_or_ge k m with h5 | h5
    · exact hls _ (h.done k q h5 hq hqe)
    · have : k = m := by omega
      subst this; rw [hm] at hq; cases hq
      rw [set_get hpi, if_pos rfl]
  · intro k q hq hl
    rcases hin k q hq hl with h5 | h5
    · omega
    · exact Nat.lt_succ_of_lt (h.lim k q hq h5)
  · intro i o hi ho e hem
    rw [set_get hpi] at hi
    split at hi
    · rename_i e1
      subst e1
      rw [(hp.plat m p hm).1] at ho
      cases ho
      exact hls _ (he e hem)
    · exact hls _ (h.cl i o hi ho e hem)
  · intro k q x hq hl hqx
    rcases hin k q hq hl with h5 | h5
    · subst h5; rw [hm] at hq; cases hq; exact hd x hqx
    · have hx : p.dst ≠ some x := fun e => by
        have := hp.writer hq hm hqx e
        subst this
        rw [hm] at hq; cases hq
        rw [hu] at h5; cases h5
      rw [hne x hx, hframe x hx]
      exact h.vis1 k q x hq h5 hqx
  · intro x hx
    rw [hne x (hx m p hm (by rw [set_get hpi, if_pos rfl]))]
    exact h.vis0 x fun k q hq hl => hx k q hq (hls _ hl)
  · intro k k' tk tk' sk sk' hle hle' e1 e2
    rcases Nat.lt_or_ge k' (m + 1) with h5 | h5
    · exact h.mono k k' tk tk' sk sk' hle (by omega) e1 e2
    · have : k' = m + 1 := by omega
      subst this
      rw [htr] at e2; cases e2
      rcases Nat.lt_or_ge k (m + 1) with h6 | h6
      · exact Nat.le_trans (h.mono k m tk tm sk sm (by omega) (Nat.le_refl _) e1 h.at_) hs.next
      · have : k = m + 1 := by omega
        subst this; rw [htr] at e1; cases e1; exact Nat.le_refl _
  · intro k q tk sk hk hq hl hkd e1 hg
    obtain ⟨f1, f2⟩ := hun k q hq hl
    have hkm : k < m := by omega
    obtain ⟨v, f3, f4⟩ := h.pval k q tk sk hkm hq f1 hkd e1 hg
    have hdst : ∀ d, q.dst = some d → getT (pathOf d) t' = getT (pathOf d) tm := fun d hqd => hframe d fun e => by
      have := hp.writer hq hm hqd e
      omega
    rcases hck with hck | hck
    · subst hck
      exact ⟨v, f3, fun d hqd => by rw [f4 d hqd, hdst d hqd]⟩
    · obtain ⟨hop, hqk, hqd', hql, _⟩ := hp.plat k q hq
      rcases hkd with hkd | hkd
      · obtain ⟨_, f5⟩ := (opC_free (P := P) (G := G) (callF := callF) (o := q.o) (by rw [← hqk]; exact hkd)).val f3
        exact ⟨v, f5 s', fun d hqd => by rw [f4 d hqd, hdst d hqd]⟩
      · have hnb : p.bef.testBit q.i = false := by
          cases hb : p.bef.testBit q.i with
          | false => rfl
          | true => rw [hanc q.i hb] at f1; cases f1
        obtain ⟨it2, i1, i2, i3⟩ := hp.item m p hm
        rw [hit] at i1; cases i1
        obtain ⟨i4, _⟩ := i3 heff k q hkm hq (by rw [hkd]; rfl) hnb
        obtain ⟨i5, i6⟩ := i4 (by rw [hkd]; rfl)
        have hag : ∀ x ∈ q.looks, getT (pathOf x) t' = getT (pathOf x) tk := fun x hx =>
          tr_frame' hp e1 htr (by omega) fun j r hj hj2 hr hrx => by
            have := i5 j r x (by omega) hr hrx hx
            obtain ⟨j', r', j1, j2, j3⟩ := hp.ord k q hq r.i this
            have := hp.uniq j' j r' r j2 hr j3
            omega
        obtain ⟨v', s2, a1, a2⟩ := againC_val (againsC_mem hck i6) (by rw [looks_guard hql hag]; exact hg)
        rw [opC_dep (hp.nosel _ _ hop) (looks_ev hql hag)] at a1
        have a3 := (kept hqk (.inr hkd) a1).1
        rw [a3] at a1
        refine ⟨v', a1, fun d hqd => ?_⟩
        have f6 := f4 d hqd
        rw [put_get_same] at f6 ⊢
        by_cases hlt : d < tk.n
        · rw [if_pos hlt]; exact a2 d (by rw [← hqd']; exact hqd)
        · rw [if_neg hlt] at f6 ⊢; rw [f6, hdst d hqd]
  · intro k q tk sk hk hq hl hkd e1 hg
    obtain ⟨f1, f2⟩ := hun k q hq hl
    have hkm : k < m := by omega
    obtain ⟨f3, f4, v, ety, vals, f5, f6, f7⟩ := h.pnew k q tk sk hkm hq f1 hkd e1 hg
    have hlt := h.step.rel.wf.lt f6
    refine ⟨by rw [hs.old _ hlt]; exact f3, f4, v, ety, vals, f5, ?_, fun d hqd => ?_⟩
    · rw [hs.un _ hlt f3 (fun o ho => ?_) (fun d hd => by rw [f6] at hd; cases hd)]
      · exact f6
      · rw [f6] at ho; cases ho; rfl
    · rw [f7 d hqd, hframe d fun e => ?_]
      have := hp.writer hq hm hqd e
      omega

/-- An effect comes up. -/
theorem Inv.effect (hc : CFok P G callF) (hp : PlanOk P ops l items) (h : Inv P G callF ops items l t0 s0 E0 w0 m ls a w E tm sm tv) {p : Plat} (hm : l[m]? = some p) (hu : ls.getD p.i false = false)
    (he : ∀ e ∈ edgesOf p.o, ls.getD e false = true) (heff : p.kd.isEff = true) {it : Item} (hit : items[m]? = some it) {t' : T} {s' : St} {out : Out} (hr : itemC P G callF ops it tm sm = .mk out t' s')
    (hQ : ∀ x, out = .panic x → ∀ E' a' w' v', Step E0 s0 w0 E' s' w' → TR E' t' a' → VR E' x v' → Q (.panic [{ v := v', recovered := false }]) a' w') :
    wpOp P ops Q p.i (fun a' w' => ∃ E' tv', Inv P G callF ops items l t0 s0 E0 w0 (m + 1) (ls.setIfInBounds p.i true) a' w' E' t' s' tv') a w := by
  obtain ⟨hop, hkd, hdst, hlooks, _⟩ := hp.plat m p hm
  have hanc := edges_anc hp h hm he
  have hag := h.agree hp (Nat.le_refl _) hm hu hanc h.at_
  have hgd := looks_guard hlooks hag
  have hdep : opC P G callF p.o tv sm = opC P G callF p.o tm sm := opC_dep (hp.nosel _ _ hop) (looks_ev hlooks hag)
  obtain ⟨it2, i1, i2, i3⟩ := hp.item m p hm
  rw [hit] at i1; cases i1
  have hrun := itemC_run hr
  have hn := tr_n hp h.at_
  have hok := opC_ok (o := p.o) hc h.step.rel h.glob h.tr
  rw [hdep] at hok
  have hnorm : out = .normal → trC P G callF ops items t0 s0 (m + 1) = some (t', s') := fun e => by
    subst e; simp only [trC, h.at_, hit, hr]
  have slot : ∀ (v : AV) (t1 t2 : T), t1.n = t0.n → t2.n = t0.n → (∀ x, getT (pathOf x) t1 = getT (pathOf x) tv) → (∀ x, getT (pathOf x) t2 = getT (pathOf x) tm) → ∀ x, p.dst = some x →
      getT (pathOf x) (putC p.dst v t1) = getT (pathOf x) (putC p.dst v t2) := fun v t1 t2 n1 n2 e1 e2 x hx => by
    rw [hx]
    show getT (pathOf x) (t1.put x (pathOf x) v) = getT (pathOf x) (t2.put x (pathOf x) v)
    rw [put_get_same, put_get_same, n1, n2]
    by_cases hlt : x < t0.n
    · rw [if_pos hlt, if_pos hlt]
    · rw [if_neg hlt, if_neg hlt, e1, e2, tr_far hp (by omega) h.at_]
      refine h.vis0 x fun k q hq hl hd' => ?_
      have := hp.writer hq hm hd' hx
      subst this
      rw [hm] at hq; cases hq
      rw [hu] at hl; cases hl
  subst i2
  cases hrun with
  | unwanted hg =>
    refine wpOp_unwanted hop (guard_ok h.tr (by rw [hgd]; exact hg)) ?_
    rw [← hdst]
    exact ⟨E, _, h.next hp hm hu he heff hit (hnorm rfl) (.refl h.step.rel) (h.tr.putC _ (vr_undef E)) (by rw [putC_n, h.n]) (by rw [putC_ds, putC_ds, h.ds]) (fun x hx => putC_get_ne hx)
      (slot _ tv tm h.n hn (fun _ => rfl) (fun _ => rfl)) (.inl rfl)⟩
  | plain v s' _ hk' => rw [heff] at hk'; cases hk'
  | val v s' hg _ e hck =>
    rw [e] at hok
    refine wpOp_ok hop (guard_ok h.tr (by rw [hgd]; exact hg)) hok fun v' E' w' hs hv => ?_
    rw [← hdst]
    exact ⟨E', _, h.next hp hm hu he heff hit (hnorm rfl) hs ((h.tr.mono hs.le).putC _ hv) (by rw [putC_n, h.n]) (by rw [putC_ds, putC_ds, h.ds]) (fun x hx => putC_get_ne hx)
      (slot _ tv tm h.n hn (fun _ => rfl) (fun _ => rfl)) (.inr hck)⟩
  | skip s' hg _ e hck =>
    rw [e] at hok
    refine wpOp_ok hop (guard_ok h.tr (by rw [hgd]; exact hg)) hok fun E' w' hs => ?_
    rw [← hdst]
    exact ⟨E', _, h.next hp hm hu he heff hit (hnorm rfl) hs ((h.tr.mono hs.le).putC _ (vr_undef E')) (by rw [putC_n, h.n]) (by rw [putC_ds, putC_ds, h.ds]) (fun x hx => putC_get_ne hx)
      (slot _ tv tm h.n hn (fun _ => rfl) (fun _ => rfl)) (.inr hck)⟩
  | dfr f args s' hg _ e hck =>
    rw [e] at hok
    refine wpOp_ok hop (guard_ok h.tr (by rw [hgd]; exact hg)) hok fun hss d hd' => ?_
    rw [← hdst]
    subst hss
    refine ⟨E, _, h.next hp hm hu he heff hit (hnorm rfl) (.refl h.step.rel) (TR.putC (t := { tv with ds := (f, args) :: tv.ds }) (a := { a with defers := d :: a.defers }) ?_ it.p.dst (vr_undef E))
      (by rw [putC_n]; exact h.n) (by rw [putC_ds, putC_ds]; show _ :: tv.ds = _ :: tm.ds; rw [h.ds]) (fun x hx => putC_get_ne hx)
      (slot _ _ _ h.n hn (fun _ => rfl) (fun _ => rfl)) (.inr hck)⟩
    exact ⟨h.tr.size, h.tr.val, .cons hd' h.tr.ds⟩
  | panic v s' hg _ e =>
    rw [e] at hok
    refine wpOp_ok hop (guard_ok h.tr (by rw [hgd]; exact hg)) hok fun v' E' w' hs hv => ?_
    refine hQ v rfl E' a w' v' (h.step.trans hs) ?_ hv
    refine ⟨by rw [maskT_n, hn, h.tr.size, h.n], fun x => ?_, by rw [maskT_ds, ← h.ds]; exact h.tr.ds.mono hs.le⟩
    rcases maskT_get (x := x) (fl := it.fl) (t := tm) with h1 | ⟨h1, h2⟩
    · rw [h1]; exact .undef _
    · rw [h1]
      have : getT (pathOf x) tm = getT (pathOf x) tv := by
        by_cases hw : ∃ (k : Nat) (q : Plat), l[k]? = some q ∧ ls.getD q.i false = true ∧ q.dst = some x
        · obtain ⟨k, q, hq, hl, hqx⟩ := hw
          exact (h.vis1 k q x hq hl hqx).symm
        · rw [h.vis0 x fun k q hq hl hqx => hw ⟨k, q, hq, hl, hqx⟩]
          by_cases hf : x ∈ it.fl
          · exact tr_far hp (by have := h2 hf; rw [hn] at this; exact this) h.at_
          · refine tr_frame' hp (rfl : trC P G callF ops items t0 s0 0 = some (t0, s0)) h.at_ (Nat.zero_le m) fun j q _ hj hq hqx => ?_
            have hql : ls.getD q.i false = false := by
              cases hx : ls.getD q.i false with
              | false => rfl
              | true => exact absurd ⟨j, q, hq, hx, hqx⟩ hw
            have hqe : q.kd.isEff = false := by
              cases hx : q.kd.isEff with
              | false => rfl
              | true => rw [h.done j q hj hq hx] at hql; cases hql
            have hnb : it.p.bef.testBit q.i = false := by
              cases hb : it.p.bef.testBit q.i with
              | false => rfl
              | true => rw [hanc q.i hb] at hql; cases hql
            exact hf ((i3 heff j q hj hq hqe hnb).2 x hqx)
      rw [this]
      exact VR.mono hs.le (h.tr.val x)

theorem filter_lt {α : Type} {f g : α → Bool} : ∀ {l : List α}, (∀ q ∈ l, g q = true → f q = true) → (∃ q ∈ l, f q = true ∧ g q = false) → (l.filter g).length < (l.filter f).length
  | [], _, h => by obtain ⟨q, hq, _⟩ := h; cases hq
  | x :: l, h1, ⟨q, hq, hf, hg⟩ => by
    have hle : ∀ {l : List α}, (∀ q ∈ l, g q = true → f q = true) → (l.filter g).length ≤ (l.filter f).length := by
      intro l
      induction l with
      | nil => intro _; simp
      | cons y l ih =>
        intro h
        have := ih fun q hq => h q (List.mem_cons_of_mem _ hq)
        have hy := h y (List.mem_cons_self ..)
        cases hgy : g y with
        | true => rw [List.filter_cons_of_pos hgy, List.filter_cons_of_pos (hy hgy)]; simpa using this
        | false =>
          rw [List.filter_cons_of_neg (by simp [hgy])]
          cases hfy : f y with
          | true => rw [List.filter_cons_of_pos hfy]; simp; omega
          | false => rw [List.filter_cons_of_neg (by simp [hfy])]; exact this
    have h2 := fun q hq => h1 q (List.mem_cons_of_mem x hq)
    rcases List.mem_cons.1 hq with rfl | hq
    · rw [List.filter_cons_of_pos hf, List.filter_cons_of_neg (by simp [hg])]
      have := hle h2
      simp; omega
    · have := filter_lt h2 ⟨q, hq, hf, hg⟩
      have hx := h1 x (List.mem_cons_self ..)
      cases hgx : g x with
      | true => rw [List.filter_cons_of_pos hgx, List.filter_cons_of_pos (hx hgx)]; simpa using this
      | false =>
        rw [List.filter_cons_of_neg (by simp [hgx])]
        cases hfx : f x with
        | true => rw [List.filter_cons_of_pos hfx]; simp; omega
        | false => rw [List.filter_cons_of_neg (by simp [hfx])]; exact this

/-- What the plan's order ends in. -/
def Ends (P : Program) (G : Glob) (callF : CF) (ops : Array Oper) (items : List Item) (t0 : T) (s0 : St) (o : Out) (t' : T) (s' : St) : Prop :=
  (o = .normal ∧ trC P G callF ops items t0 s0 items.length = some (t', s')) ∨
    ∃ m t1 s1 it, trC P G callF ops items t0 s0 m = some (t1, s1) ∧ items[m]? = some it ∧ itemC P G callF ops it t1 s1 = .mk o t' s' ∧ o ≠ .normal

theorem tr_lt_len {k : Nat} {x : T × St} (h : trC P G callF ops items t0 s0 k = some x) : k ≤ items.length := by
  cases k with
  | zero => exact Nat.zero_le _
  | succ k =>
    obtain ⟨_, _, it, _, h2, _⟩ := tr_succ (t' := x.1) (s' := x.2) h
    rcases Nat.lt_or_ge k items.length with h1 | h1
    · exact h1
    · rw [List.getElem?_eq_none h1] at h2; cases h2

theorem tr_stop {k j : Nat} {x : T × St} {t1 t' : T} {s1 s' : St} {it : Item} {o : Out} (h1 : trC P G callF ops items t0 s0 k = some (t1, s1)) (h2 : items[k]? = some it)
    (h3 : itemC P G callF ops it t1 s1 = .mk o t' s') (h4 : o ≠ .normal) (h : trC P G callF ops items t0 s0 j = some x) : j ≤ k := by
  rcases Nat.lt_or_ge k j with h5 | h5
  · obtain ⟨t2, s2, e⟩ := tr_le h (show k + 1 ≤ j by omega)
    simp only [trC, h1, h2, h3] at e
    cases o <;> first | exact absurd rfl h4 | cases e
  · exact h5

theorem draw_any (hc : CFok P G callF) (hp : PlanOk P ops l items) {o : Out} {t' : T} {s' : St} (hend : Ends P G callF ops items t0 s0 o t' s')
    (hQ : ∀ e a w E', Step E0 s0 w0 E' s' w → TR E' t' a → OutR E' o e → Q e a w) : ∀ (fuel m : Nat) (ls : Array Bool) (a : Act) (w : World) (E : Env) (tm : T) (sm : St) (tv : T),
    Inv P G callF ops items l t0 s0 E0 w0 m ls a w E tm sm tv → (l.filter fun p => !ls.getD p.i false).length ≤ fuel → wpAny P .any ops Q fuel ls a w := by
  -- all have come up
  have fin : ∀ (m : Nat) (ls : Array Bool) (a : Act) (w : World) (E : Env) (tm : T) (sm : St) (tv : T), Inv P G callF ops items l t0 s0 E0 w0 m ls a w E tm sm tv →
      (∀ (k : Nat) (p : Plat), l[k]? = some p → ls.getD p.i false = true) → Q .normal a w := by
    intro m ls a w E tm sm tv h hall
    have hm1 := tr_lt_len h.at_
    have hm2 : items.length ≤ m := by
      rw [hp.len]
      rcases Nat.lt_or_ge m l.length with h1 | h1
      · obtain ⟨p, hk⟩ := at_of_lt h1
        have := h.lim m p hk (hall m p hk)
        omega
      · exact h1
    have hm : m = items.length := by omega
    rcases hend with ⟨ho, he⟩ | ⟨m2, t1, s1, it, e1, e2, e3, e4⟩
    · rw [← hm, h.at_] at he
      cases he
      refine hQ .normal a w E h.step ⟨?_, fun x => ?_, by rw [← h.ds]; exact h.tr.ds⟩ (by rw [ho]; trivial)
      · rw [h.tr.size, h.n, tr_n hp h.at_]
      · have : getT (pathOf x) t' = getT (pathOf x) tv := by
          by_cases hw : ∃ (k : Nat) (q : Plat), l[k]? = some q ∧ q.dst = some x
          · obtain ⟨k, q, hq, hqx⟩ := hw
            exact (h.vis1 k q x hq (hall k q hq) hqx).symm
          · rw [h.vis0 x fun k q hq _ hqx => hw ⟨k, q, hq, hqx⟩]
            exact tr_frame' hp (rfl : trC P G callF ops items t0 s0 0 = some (t0, s0)) h.at_ (Nat.zero_le m) fun j q _ _ hq hqx => hw ⟨j, q, hq, hqx⟩
        rw [this]; exact h.tr.val x
    · have := tr_stop e1 e2 e3 e4 h.at_
      have : m2 < items.length := by
        rcases Nat.lt_or_ge m2 items.length with h1 | h1
        · exact h1
        · rw [List.getElem?_eq_none h1] at e2; cases e2
      omega
  -- somebody is always ready
  have some_ready : ∀ (m : Nat) (ls : Array Bool) (a : Act) (w : World) (E : Env) (tm : T) (sm : St) (tv : T), Inv P G callF ops items l t0 s0 E0 w0 m ls a w E tm sm tv → Region.ready .any ops ls = [] →
      ∀ (k : Nat) (p : Plat), l[k]? = some p → ls.getD p.i false = true := by
    intro m ls a w E tm sm tv h hr k
    induction k using Nat.strongRecOn with
    | _ k ih =>
      intro p hk
      cases hx : ls.getD p.i false with
      | true => rfl
      | false =>
        obtain ⟨hop, _, _, _, hbef⟩ := hp.plat k p hk
        have : p.i ∈ Region.ready .any ops ls := by
          rw [mem_ready]
          refine ⟨?_, p.o, hop, fun e he hb => ?_⟩
          · have hlt : p.i < ls.size := by rw [h.size]; exact (Array.getElem?_eq_some_iff.1 hop).1
            rw [← hx]; simp [Array.getD, hlt]
          · have hem : e.on ∈ edgesOf p.o := List.mem_map.2 ⟨e, List.mem_filter.2 ⟨by simpa using he, hb⟩, rfl⟩
            have hbit : p.bef.testBit e.on = true := by rw [hbef, befs_bit hop]; exact ⟨_, hem, .inl rfl⟩
            obtain ⟨k', q, hlt, hq, hqi⟩ := hp.ord k p hk e.on hbit
            rw [← hqi]; exact ih k' hlt q hq
        rw [hr] at this; cases this
  intro fuel
  induction fuel with
  | zero =>
    intro m ls a w E tm sm tv h hcnt
    have hall : ∀ (k : Nat) (p : Plat), l[k]? = some p → ls.getD p.i false = true := fun k p hk => by
      cases hx : ls.getD p.i false with
      | true => rfl
      | false =>
        have hm : p ∈ l.filter fun p => !ls.getD p.i false := List.mem_filter.2 ⟨List.mem_of_getElem? hk, by simp only [hx, Bool.not_false]⟩
        rw [List.eq_nil_of_length_eq_zero (Nat.le_zero.1 hcnt)] at hm
        cases hm
    refine ⟨?_, fin m ls a w E tm sm tv h hall⟩
    apply List.eq_nil_iff_forall_not_mem.2
    intro i hi
    obtain ⟨h1, o', h2, _⟩ := mem_ready.1 hi
    have hlt := (Array.getElem?_eq_some_iff.1 h2).1
    obtain ⟨k, p, hk, hpi⟩ := hp.all i hlt
    have h3 := hall k p hk
    rw [hpi] at h3
    have hlt' : i < ls.size := by rw [h.size]; exact hlt
    simp [hlt'] at h1 h3
    rw [h1] at h3; cases h3
  | succ fuel ih =>
    intro m ls a w E tm sm tv h hcnt
    refine ⟨fun hr => fin m ls a w E tm sm tv h (some_ready m ls a w E tm sm tv h hr), fun i hi => ?_⟩
    obtain ⟨h1, o', h2, h3⟩ := mem_ready.1 hi
    have hlt := (Array.getElem?_eq_some_iff.1 h2).1
    obtain ⟨k, p, hk, hpi⟩ := hp.all i hlt
    subst hpi
    have hlt' : p.i < ls.size := by rw [h.size]; exact hlt
    have hu : ls.getD p.i false = false := by rw [← h1]; simp [Array.getD, hlt']
    obtain ⟨hop, _, _, _, _⟩ := hp.plat k p hk
    rw [hop] at h2; cases h2
    have he : ∀ e ∈ edgesOf p.o, ls.getD e false = true := fun e he => by
      obtain ⟨x, hx, hxe⟩ := List.mem_map.1 he
      obtain ⟨hx1, hx2⟩ := List.mem_filter.1 hx
      rw [← hxe]; exact h3 x (by simpa using hx1) hx2
    have hanc := edges_anc hp h hk he
    -- how many have not come up
    have hcnt' : (l.filter fun q => !(ls.setIfInBounds p.i true).getD q.i false).length ≤ fuel := by
      have : (l.filter fun q => !(ls.setIfInBounds p.i true).getD q.i false).length < (l.filter fun q => !ls.getD q.i false).length := by
        refine filter_lt (fun q _ hq => ?_) ⟨p, List.mem_of_getElem? hk, by simp only [hu, Bool.not_false], by rw [set_get hlt', if_pos rfl]; rfl⟩
        rw [set_get hlt'] at hq
        split at hq
        · cases hq
        · exact hq
      omega
    have go : ∀ {m : Nat} {tm : T} {sm : St}, wpOp P ops Q p.i (fun a' w' => ∃ E' tv', Inv P G callF ops items l t0 s0 E0 w0 m (ls.setIfInBounds p.i true) a' w' E' tm sm tv') a w →
        wpOp P ops Q p.i (wpAny P .any ops Q fuel (ls.setIfInBounds p.i true)) a w := fun hh => wpOp_mono (fun a' w' ⟨E', tv', hi⟩ => ih _ _ _ _ _ _ _ _ hi hcnt') hh
    have early : ∀ (j : Nat) (q : Plat), j < k → l[j]? = some q → q.kd.isEff = true → j < m := fun j q hj hq hqe =>
      h.lim j q hq (hanc q.i (hp.chain k p hk j q hj hq hqe))
    rcases Nat.lt_or_ge k m with hkm | hkm
    · exact go (h.pend hc hp hkm hk hu he)
    · -- how far the plan's order goes
      have hkl : k < items.length := by
        rw [hp.len]
        rcases Nat.lt_or_ge k l.length with h5 | h5
        · exact h5
        · rw [List.getElem?_eq_none h5] at hk; cases hk
      have hstop : ∀ (m2 : Nat) (t1 : T) (s1 : St) (it : Item), trC P G callF ops items t0 s0 m2 = some (t1, s1) → items[m2]? = some it → itemC P G callF ops it t1 s1 = .mk o t' s' → o ≠ .normal → k ≤ m2 ∧ it.p.kd.isEff = true ∧ ∃ q, l[m2]? = some q ∧ it.p = q := by
        intro m2 t1 s1 it e1 e2 e3 e4
        have hm2 : m2 < items.length := by
          rcases Nat.lt_or_ge m2 items.length with h5 | h5
          · exact h5
          · rw [List.getElem?_eq_none h5] at e2; cases e2
        obtain ⟨q, hq⟩ := at_of_lt (l := l) (k := m2) (by rw [← hp.len]; exact hm2)
        obtain ⟨it2, f1, f2, _⟩ := hp.item m2 q hq
        rw [e2] at f1; cases f1
        have heff : it.p.kd.isEff = true := by
          have := itemC_run e3
          cases this with
          | panic v s' _ hk' => exact hk'
          | _ => exact absurd rfl e4
        refine ⟨?_, heff, q, hq, f2⟩
        rcases Nat.lt_or_ge m2 k with h5 | h5
        · have := early m2 q h5 hq (by rw [← f2]; exact heff)
          have := tr_stop e1 e2 e3 e4 h.at_
          omega
        · exact h5
      have htk : ∃ tk sk, trC P G callF ops items t0 s0 k = some (tk, sk) := by
        rcases hend with ⟨_, he'⟩ | ⟨m2, t1, s1, it, e1, e2, e3, e4⟩
        · exact tr_le he' (Nat.le_of_lt hkl)
        · exact tr_le e1 (hstop m2 t1 s1 it e1 e2 e3 e4).1
      obtain ⟨tk, sk, htk⟩ := htk
      obtain ⟨n, rfl⟩ := Nat.exists_eq_add_of_le hkm
      have hk1 := Inv.advTo hp n h (fun j q hj hj2 hq => by
        cases hx : q.kd.isEff with
        | false => rfl
        | true => have := early j q hj2 hq hx; omega) htk
      cases heff : p.kd.isEff with
      | true =>
        obtain ⟨it, i1, i2, _⟩ := hp.item _ p hk
        rcases hend with ⟨ho, he'⟩ | ⟨m2, t1, s1, it2, e1, e2, e3, e4⟩
        · obtain ⟨t1, s1, htr⟩ := tr_le he' (show m + n + 1 ≤ items.length by omega)
          obtain ⟨t2, s2, it2, e1, e2, e3⟩ := tr_succ htr
          rw [htk] at e1; cases e1
          exact go (hk1.effect hc hp hk hu he heff e2 e3 fun x hx => by cases hx)
        · obtain ⟨hle, _, _⟩ := hstop m2 t1 s1 it2 e1 e2 e3 e4
          rcases Nat.lt_or_ge (m + n) m2 with h5 | h5
          · obtain ⟨t3, s3, htr⟩ := tr_le e1 (show m + n + 1 ≤ m2 by omega)
            obtain ⟨t2, s2, it3, f1, f2, f3⟩ := tr_succ htr
            rw [htk] at f1; cases f1
            exact go (hk1.effect hc hp hk hu he heff f2 f3 fun x hx => by cases hx)
          · have : m2 = m + n := by omega
            subst this
            rw [htk] at e1; cases e1
            exact go (hk1.effect hc hp hk hu he heff e2 e3 fun x hx E' a' w' v' hs ht hv => hQ _ a' w' E' hs ht (by rw [hx]; exact ⟨v', rfl, hv⟩))
      | false =>
        have hnext : ∃ t1 s1, trC P G callF ops items t0 s0 (m + n + 1) = some (t1, s1) := by
          rcases hend with ⟨_, he'⟩ | ⟨m2, t1, s1, it2, e1, e2, e3, e4⟩
          · exact tr_le he' (by omega)
          · obtain ⟨hle, hx, q, hq, hqe⟩ := hstop m2 t1 s1 it2 e1 e2 e3 e4
            refine tr_le e1 ?_
            rcases Nat.lt_or_ge (m + n) m2 with h5 | h5
            · exact h5
            · have : m2 = m + n := by omega
              subst this
              rw [hk] at hq; cases hq
              rw [hqe, heff] at hx; cases hx
        obtain ⟨t1, s1, htr⟩ := hnext
        have hk2 := hk1.advance hp hk heff htr
        exact go (hk2.pend hc hp (Nat.lt_succ_self _) hk hu he)

/-- A region that draws its order. -/
theorem draw_ok (hm : P.follows .mixedOrders = true) (hc : CFok P G callF) {id : Nat} {t t' : T} {s s' : St} {o : Out} {a : Act} {w : World} {E : Env} (h : Rel E s w) (hG : GlobOk E G w) (ht : TR E t a)
    (hr : regionC P G callF ops true t s = .mk o t' s') (hQ : ∀ e a' w' E', Step E s w E' s' w' → TR E' t' a' → OutR E' o e → Q e a' w') : (Code.region id ops true).wp P Q a w := by
  unfold regionC at hr
  simp only [cond_true] at hr
  cases hpl : planOf P ops with
  | none => rw [hpl] at hr; cases hr
  | some items =>
    simp only [hpl] at hr
    obtain ⟨l, hp⟩ := planOf_ok hpl
    have hs := Step.drew h
    have hend : Ends P G callF ops items t s o t' s' := items_end items 0 rfl (by simp) rfl hr
    refine wp_region_any hm (draw_any hc hp (E0 := E) (w0 := { w with drawn := w.drawn + 1 }) hend (fun e a' w' E' hs' ht' ho => hQ e a' w' E' (hs.trans hs') ht' ho) ops.size 0 _ a _ E t s t ?_ ?_)
    · refine ⟨by simp, rfl, fun k p hk => absurd hk (Nat.not_lt_zero k), fun k p hk hl => ?_, fun i o' hi => ?_, .refl hs.rel, hG, ht, rfl, rfl, fun k p x hk hl => ?_, fun _ _ => rfl, ?_, fun k p _ _ hk => absurd hk (Nat.not_lt_zero k), fun k p _ _ hk => absurd hk (Nat.not_lt_zero k)⟩
      · simp [Array.getElem?_replicate] at hl
        split at hl <;> simp at hl
      · simp [Array.getElem?_replicate] at hi
        split at hi <;> simp at hi
      · simp [Array.getElem?_replicate] at hl
        split at hl <;> simp at hl
      · intro k k' tk tk' sk sk' hle hle' e1 e2
        have h1 : k' = 0 := by omega
        have h2 : k = 0 := by omega
        subst h1 h2
        rw [e1] at e2; cases e2; exact Nat.le_refl _
    · rw [← hp.size]; exact List.length_filter_le ..

theorem region_ok (hm : P.follows .mixedOrders = true) (hc : CFok P G callF) {id : Nat} {draw : Bool} {t t' : T} {s s' : St} {o : Out} {a : Act} {w : World} {E : Env} (h : Rel E s w) (hG : GlobOk E G w) (ht : TR E t a)
    (hr : regionC P G callF ops draw t s = .mk o t' s') (hQ : ∀ e a' w' E', Step E s w E' s' w' → TR E' t' a' → OutR E' o e → Q e a' w') : (Code.region id ops draw).wp P Q a w := by
  cases draw with
  | true => exact draw_ok hm hc h hG ht hr hQ
  | false =>
    refine wp_region ?_
    unfold regionC plainItems at hr
    simp only [cond_false] at hr
    have := plain_ok (Q := Q) hc ops.toList 0 rfl h hG ht hr hQ
    simpa [List.range_eq_range'] using this
end
end Go.Am
end
section
set_option autoImplicit false
namespace Go.Am

section
variable {P : Program} {G : Glob} {callF : CF}

theorem OutR.normal {E : Env} {e : Exit} (h : OutR E .normal e) : e = .normal := by cases e <;> first | rfl | cases h
theorem OutR.ne {E : Env} {o : Out} {e : Exit} (h : OutR E o e) (ho : o ≠ .normal) : e ≠ .normal := by
  rintro rfl; cases o <;> first | exact ho rfl | cases h

theorem then_ne {next : Act → World → Prop} {Q : Exit → Act → World → Prop} {e : Exit} {a : Act} {w : World} (he : e ≠ .normal) (h : Q e a w) : Exit.then next Q e a w := by
  cases e <;> first | exact absurd rfl he | exact h

/-- What runs so is so. -/
structure Sound (P : Program) (G : Glob) (k : K) (c : Code) : Prop where
  go : ∀ {Q : Exit → Act → World → Prop} {t t' : T} {s s' : St} {o : Out} {a : Act} {w : World} {E : Env}, Rel E s w → GlobOk E G w → TR E t a → k t s = .mk o t' s' →
    (∀ e a' w' E', Step E s w E' s' w' → TR E' t' a' → OutR E' o e → Q e a' w') → c.wp P Q a w

theorem then_sound {x y : K} {c d : Code} (hx : Sound P G x c) (hy : Sound P G y d) : Sound P G (thenC x y) (.seq c d) := by
  refine ⟨?_⟩
  intro Q t t' s s' o a w E h hG ht hr hQ
  unfold thenC at hr
  split at hr
  · rename_i o1 t1 s1 e1
    refine wp_seq (hx.go h hG ht e1 fun e a1 w1 E1 hs1 ht1 ho1 => ?_)
    split at hr
    · rw [ho1.normal]
      exact hy.go hs1.rel (hG.step h hs1) ht1 hr fun e2 a2 w2 E2 hs2 ht2 ho2 => hQ e2 a2 w2 E2 (hs1.trans hs2) ht2 ho2
    · rename_i hne
      cases hr
      exact then_ne (ho1.ne hne) (hQ e a1 w1 E1 hs1 ht1 ho1)
  · cases hr

theorem loop_sound {x : K} {c : Code} (hx : Sound P G x c) : ∀ (n : Nat) {Q : Exit → Act → World → Prop} {t t' : T} {s s' : St} {o : Out} {a : Act} {w : World} {E : Env}, Rel E s w → GlobOk E G w → TR E t a →
    loopN x n t s = .mk o t' s' → (∀ e a' w' E', Step E s w E' s' w' → TR E' t' a' → OutR E' o e → Q e a' w') → Code.rounds P c Q n a w
  | 0, Q, t, t', s, s', o, a, w, E, _, _, _, hr, _ => by cases hr
  | n + 1, Q, t, t', s, s', o, a, w, E, h, hG, ht, hr, hQ => by
    simp only [loopN, thenC] at hr
    rw [rounds_succ]
    split at hr
    · rename_i o1 t1 s1 e1
      refine hx.go h hG ht e1 fun e a1 w1 E1 hs1 ht1 ho1 => ?_
      split at hr
      · rw [ho1.normal]
        exact loop_sound hx n hs1.rel (hG.step h hs1) ht1 hr fun e2 a2 w2 E2 hs2 ht2 ho2 => hQ e2 a2 w2 E2 (hs1.trans hs2) ht2 ho2
      · rename_i hne
        cases hr
        exact then_ne (ho1.ne hne) (hQ e a1 w1 E1 hs1 ht1 ho1)
    · cases hr

theorem block_sound {x : K} {c : Code} {id : Nat} (hx : Sound P G x c) : Sound P G (blockC id x) (.block id c) := by
  refine ⟨?_⟩
  intro Q t t' s s' o a w E h hG ht hr hQ
  unfold blockC at hr
  split at hr
  · rename_i o1 t1 s1 e1
    refine wp_block (hx.go h hG ht e1 fun e a1 w1 E1 hs1 ht1 ho1 => ?_)
    split at hr
    · rename_i i
      cases e with
      | exit j =>
        have hij : i = j := ho1
        subst hij
        rcases Bool.eq_false_or_eq_true (i.beq id) with hb | hb
        · have := Nat.eq_of_beq_eq_true hb
          subst this
          rw [cond_of_true hb] at hr
          cases hr
          simp only [Exit.inBlock, if_true]
          exact hQ .normal a1 w1 E1 hs1 ht1 trivial
        · have : i ≠ id := fun e => by subst e; simp at hb
          rw [cond_of_false hb] at hr
          cases hr
          simp only [Exit.inBlock, if_neg this]
          exact hQ (.exit i) a1 w1 E1 hs1 ht1 rfl
      | _ => cases ho1
    · rename_i hne
      cases hr
      have hq := hQ e a1 w1 E1 hs1 ht1 ho1
      cases e with
      | exit j => cases o <;> first | exact absurd rfl (hne _) | cases ho1
      | _ => exact hq
  · cases hr

theorem exec_ok (hm : P.follows .mixedOrders = true) (hc : CFok P G callF) (n : Nat) : ∀ c : Code, Sound P G (execC P G callF n c) c
  | .skip => by
    refine ⟨?_⟩
    intro Q t t' s s' o a w E h hG ht hr hQ
    cases hr
    exact wp_skip (hQ .normal a w E (.refl h) ht trivial)
  | .label l => by
    refine ⟨?_⟩
    intro Q t t' s s' o a w E h hG ht hr hQ
    cases hr
    exact wp_label (hQ .normal a w E (.refl h) ht trivial)
  | .region id ops draw => by
    refine ⟨?_⟩
    intro Q t t' s s' o a w E h hG ht hr hQ
    exact region_ok hm hc h hG ht hr hQ
  | .seq x y => then_sound (exec_ok hm hc n x) (exec_ok hm hc n y)
  | .cond c x y => by
    refine ⟨?_⟩
    intro Q t t' s s' o a w E h hG ht hr hQ
    have hx := exec_ok hm hc n x
    have hy := exec_ok hm hc n y
    have hev := evC_ok hG ht c
    simp only [execC, condC] at hr
    split at hr
    · rename_i u e
      rw [e] at hev
      generalize hv : a.eval c = v at hev
      cases hev
      refine wp_cond hv ?_
      cases u with
      | true => exact hx.go h hG ht hr hQ
      | false => exact hy.go h hG ht hr hQ
    · cases hr
  | .block id c => block_sound (exec_ok hm hc n c)
  | .loop c => by
    refine ⟨?_⟩
    intro Q t t' s s' o a w E h hG ht hr hQ
    exact wp_loop_rounds n (loop_sound (exec_ok hm hc n c) n h hG ht hr hQ)
  | .exit id => by
    refine ⟨?_⟩
    intro Q t t' s s' o a w E h hG ht hr hQ
    cases hr
    exact wp_exit (hQ (.exit id) a w E (.refl h) ht rfl)
  | .ret => by
    refine ⟨?_⟩
    intro Q t t' s s' o a w E h hG ht hr hQ
    cases hr
    exact wp_ret (hQ .ret a w E (.refl h) ht trivial)
  | .rangeFunc _ _ _ _ => by refine ⟨?_⟩; intro Q t t' s s' o a w E h hG ht hr hQ; cases hr
  | .scope _ => by refine ⟨?_⟩; intro Q t t' s s' o a w E h hG ht hr hQ; cases hr
  | .goto _ => by refine ⟨?_⟩; intro Q t t' s s' o a w E h hG ht hr hQ; cases hr
  | .refuse _ => by refine ⟨?_⟩; intro Q t t' s s' o a w E h hG ht hr hQ; cases hr

/-! ## Functions -/

theorem setArgs_get {x : Nat} : ∀ (l : List AV) (i : Nat) (t : Tr AV), (setArgs l i t).getP (pathOf x) = if i ≤ x ∧ x < i + l.length then l[x - i]? else t.getP (pathOf x)
  | [], i, t => by simp only [setArgs, List.length_nil]; rw [if_neg (by omega)]
  | v :: l, i, t => by
    simp only [setArgs]
    rw [setArgs_get l (i + 1)]
    simp only [List.length_cons]
    by_cases h1 : x = i
    · subst h1
      rw [if_neg (by omega), if_pos (by omega), Tr.getP_setP_same]; simp
    · rw [Tr.getP_setP_ne _ _ _ _ (fun e => h1 (pathOf_inj e).symm)]
      by_cases h2 : i + 1 ≤ x ∧ x < i + 1 + l.length
      · rw [if_pos h2, if_pos (by omega)]
        rw [show x - i = (x - (i + 1)) + 1 by omega]; simp
      · rw [if_neg h2, if_neg (by omega)]

theorem enter_TR {E : Env} {args : List AV} {vs : List Value} (h : VRL E args vs) {n : Nat} (hn : args.length ≤ n) :
    TR E ⟨setArgs args 0 .nil, n, [], .no⟩ { tmps := (⟨vs⟩ : Array Value) ++ Array.replicate (n - vs.length) undef, defers := [] } := by
  have hl := h.length
  refine ⟨by simp; omega, fun i => ?_, .nil⟩
  unfold getT
  simp only
  rw [setArgs_get]
  by_cases hi : i < args.length
  · rw [if_pos (by omega)]
    obtain ⟨x, hx⟩ : ∃ x, args[i]? = some x := ⟨args[i], List.getElem?_eq_getElem hi⟩
    obtain ⟨v, h1, h2⟩ := h.at_ hx
    rw [Nat.sub_zero, hx]
    simp only
    have : (((⟨vs⟩ : Array Value) ++ Array.replicate (n - vs.length) undef).getD i undef) = v := by
      rw [Array.getD_eq_getD_getElem?, Array.getElem?_append_left (by simp; omega)]
      simp [h1]
    rw [this]; exact h2
  · rw [if_neg (by omega), Tr.getP_nil]; exact .undef _

/-- one result of a function -/
def oneRes (tmps : Array Value) (rv : ResultVar) : Sem Value :=
  match rv with
  | .tmp t => pure (tmps.getD t undef)
  | .cell b t => do loadVar t (← asAddr (tmps.getD b undef))

theorem resOf_ok {E : Env} {s : St} {w : World} {t : T} {a : Act} (h : Rel E s w) (ht : TR E t a) {rv : ResultVar} {x : AV} (hx : resOf P rv t s = some x) :
    ∃ v, VR E x v ∧ (oneRes a.tmps rv).run P w = .ok v w := by
  unfold oneRes
  cases rv with
  | tmp i =>
    simp only [resOf, Option.some.injEq] at hx
    subst hx
    exact ⟨_, ht.val i, rfl⟩
  | cell b ty =>
    simp only [resOf] at hx
    have hb := ht.val b
    cases hs : shapeT P ty with
    | none => rw [hs] at hx; cases hx
    | some sh =>
      cases sh with
      | some n =>
        rw [hs] at hx
        simp only at hx
        obtain ⟨h1, h2⟩ := shapeT_agg hs
        split at hx
        · rename_i l hl
          cases hx
          obtain ⟨b', off, vs, e1, e2, e3, e4⟩ := h.cells hl hb
          refine ⟨.agg ⟨vs⟩, .agg e2, ?_⟩
          have hl : (loadCells ⟨b', off, none⟩ n).run P w = .ok ⟨vs⟩ w := by
            have := run_loadCells_list (P := P) (w := w) ⟨b', off, none⟩ vs (fun j v hj => by rw [Addr.add_lit]; exact e4 j v hj)
            rw [← e2.length, e3] at this
            exact this
          simp [e1, asAddr, loadVar, isAgg_run h1, sizeT_run h2, hl]
        · cases hx
      | none =>
        rw [hs] at hx
        simp only at hx
        have h1 := shapeT_one hs
        obtain ⟨b', off, u, e1, e2, e3⟩ := h.cell1 hx hb
        refine ⟨u, e2, ?_⟩
        simp [e1, asAddr, loadVar, isAgg_run h1, e3]

theorem resultsC_ok {E : Env} {s : St} {w : World} {t : T} {a : Act} (h : Rel E s w) (ht : TR E t a) : ∀ {rs : List ResultVar} {l : List AV}, resultsC P rs t s = some l →
    ∃ vs, VRL E l vs ∧ (rs.mapM (oneRes a.tmps)).run P w = .ok vs w
  | [], l, hl => by
    simp only [resultsC, Option.some.injEq] at hl
    subst hl
    exact ⟨[], .nil, rfl⟩
  | rv :: rs, l, hl => by
    simp only [resultsC] at hl
    split at hl
    · rename_i x q h1 h2
      cases hl
      obtain ⟨v, hv, hr⟩ := resOf_ok h ht h1
      obtain ⟨vs, hvs, hrs⟩ := resultsC_ok h ht h2
      refine ⟨v :: vs, .cons hv hvs, ?_⟩
      rw [List.mapM_cons]
      simp only [Sem.run_bind, hr, Result.andThen_ok, hrs]
      rfl
    · cases hl

theorem results_ok {E : Env} {s : St} {w : World} {t : T} {a : Act} (h : Rel E s w) (ht : TR E t a) {fn : Func} {l : List AV} (hl : resultsC P fn.results.toList t s = some l) :
    ∃ v, VR E (oneC l) v ∧ (results fn a.tmps).run P w = .ok v w := by
  obtain ⟨vs, h1, h2⟩ := resultsC_ok h ht hl
  have hlen := h1.length
  have e : results fn a.tmps = (do
      let vs ← fn.results.mapM (oneRes a.tmps)
      pure (if h : vs.size = 1 then vs[0] else .tuple vs)) := rfl
  rw [e, ← Array.toArray_toList (xs := fn.results), List.mapM_toArray]
  have hm : (List.toArray <$> fn.results.toList.mapM (oneRes a.tmps)).run P w = .ok ⟨vs⟩ w := by
    rw [map_eq_pure_bind, Sem.run_bind, h2]; rfl
  refine ⟨_, ?_, by rw [Sem.run_bind, hm]; rfl⟩
  cases h1 with
  | nil => exact .tup .nil
  | cons h h' =>
    cases h' with
    | nil => exact h
    | cons h'' h3 =>
      simp only [oneC]
      rw [dif_neg (by simp)]
      exact .tup (.cons h (.cons h'' h3))
end
end Go.Am
end
section
set_option autoImplicit false
namespace Go.Am

/-- No function is the one that the model answers itself. -/
def NoNG (P : Program) : Prop := ∀ (f : FuncId) (fn : Func), P.funcs[f]? = some fn → fn.name ≠ "runtime.NumGoroutine"

/-- What 'recover' yields in a deferred function of a frame in this mode. -/
def Recov (E : Env) (rv : AV) (u : FrameMode) : Prop := (u = .returning ∧ rv = .nilifc) ∨ ∃ v, u = .panicking [{ v := v, recovered := false }] ∧ VR E rv v

section
variable {P : Program} {G : Glob} {callF : CF}

theorem callD_one (hm : P.follows .mixedOrders = true) (hn : NoNG P) (hc : CFok P G callF) {n : Nat} {f : FuncId} {rv : AV} {args : List AV} {s s' : St} {E : Env} {w : World} {vs : List Value} {u : FrameMode}
    (h : Rel E s w) (hG : GlobOk E G w) (ha : VRL E args vs) (hrv : Recov E rv u) {fn : Func} (hfn : P.funcs[f]? = some fn) {id : Nat} {ops : Array Oper} {rest : Code} (hbody : fn.body = some (.seq (.region id ops false) rest))
    {r : Oper} (hops : ops.toList = [r]) {F : AV → List AV → St → Option St}
    (hF : (match r.op, r.guard with
        | .call { callee := .builtin .recover, .. }, none => bif fn.results.toList.isEmpty then
            let k := execC P G callF n rest
            fun rv args s => bif Nat.ble args.length fn.ntmps then
              match k (putC r.dst rv ⟨setArgs args 0 .nil, fn.ntmps, [], .no⟩) s with
              | .mk out t s => match t.ds, out with
                | [], .normal | [], .ret => some s
                | _, _ => none
              | .fail => none
            else none
          else fun _ _ _ => none
        | _, _ => fun _ _ _ => none) = F) (hr : F rv args s = some s') :
    Enters P f ∧ CallsD P f ⟨vs⟩ u w fun e u' w' => ∃ v' E', e = .returned v' ∧ settle u' = .returning ∧ Step E s w E' s' w' := by
  split at hF
  rotate_left
  · subst hF; cases hr
  rename_i as ts hop hg1
  rcases Bool.eq_false_or_eq_true fn.results.toList.isEmpty with hb | hb
  rotate_left
  · rw [cond_of_false hb] at hF; subst hF; cases hr
  rw [cond_of_true hb] at hF
  subst hF
  simp only at hr
  rcases Bool.eq_false_or_eq_true (Nat.ble args.length fn.ntmps) with hl | hl
  rotate_left
  · rw [cond_of_false hl] at hr; cases hr
  rw [cond_of_true hl] at hr
  have hle := Nat.le_of_ble_eq_true hl
  have hres : fn.results = #[] := by
    have : fn.results.toList = [] := by simpa using hb
    exact Array.toList_eq_nil_iff.1 this
  refine ⟨⟨fn, hfn, by rw [hbody]; rfl, hn f fn hfn⟩, callsD_of_wpS hfn hbody fun c₀ cs hu => wpS_seq (wpS_region ?_)⟩
  have h0 : ops[0]? = some r := by
    have : ops.toList[0]? = some r := by rw [hops]; rfl
    simpa using this
  have hsz : ops.size = 1 := by rw [← Array.length_toList, hops]; rfl
  have ht0 := enter_TR ha hle
  have hw : ∀ (y : Nat → Option Bool) (o : Oper), o.guard = none → Region.wanted o y = true := fun y o hg => by unfold Region.wanted; rw [hg]
  have hrec : ∀ (a : Act), (execOp a.eval r).run P w = .ok .recover w := fun a => by simp [execOp, hop, resolve, invoke, builtin]
  have fin : ∀ (v : Value) (u' : FrameMode) (cs' : List Frame), VR E rv v → cs' = { c₀ with mode := u' } :: cs → settle u' = .returning → ∀ a1, a1 = ({ tmps := (⟨vs⟩ : Array Value) ++ Array.replicate (fn.ntmps - vs.length) undef, defers := [] } : Act).put r.dst v →
      rest.wpS P (bodyPostS P fn c₀ cs fun e u' w' => ∃ v' E', e = .returned v' ∧ settle u' = .returning ∧ Step E s w E' s' w') a1 cs' w := by
    intro v u' cs' hv hcs hu' a1 ha1
    have ht1 := ht0.putC r.dst hv
    rw [← ha1] at ht1
    refine wpS_of_wp ?_
    split at hr
    · rename_i out t s1 e1
      refine (exec_ok hm hc n rest).go h hG ht1 e1 fun e a' w' E' hs hta ho => ?_
      have hds := hta.ds
      split at hr
      · rename_i hd
        cases hr
        rw [ho.normal]
        rw [hd] at hds
        generalize hdd : a'.defers = dd at hds
        cases hds
        exact ⟨hdd, u', hcs, .tuple #[], results_none hres _ _ _, _, E', rfl, hu', hs⟩
      · rename_i hd
        cases hr
        have : e = .ret := by cases e <;> first | rfl | cases ho
        subst this
        rw [hd] at hds
        generalize hdd : a'.defers = dd at hds
        cases hds
        exact ⟨hdd, u', hcs, .tuple #[], results_none hres _ _ _, _, E', rfl, hu', hs⟩
      · cases hr
    · cases hr
  rw [hsz]
  show wpOpsS P ops _ [0] _ _ _
  unfold wpOpsS
  simp only [h0, hw _ r hg1, if_true, hrec]
  rcases hrv with ⟨hu1, hrv1⟩ | ⟨v, hu1, hrv1⟩
  · have hrD : recoverD (c₀ :: cs) = none := by simp [recoverD, hu, hu1]
    rw [hrD]
    subst hrv1
    exact fin .nilIface .returning (c₀ :: cs) .nilifc (by rw [← hu1, ← hu]) rfl _ rfl
  · have hrD : recoverD (c₀ :: cs) = some (v, { c₀ with mode := .panicking [{ v := v, recovered := true }] } :: cs) := by simp [recoverD, hu, hu1]
    rw [hrD]
    exact fin v (.panicking [{ v := v, recovered := true }]) _ hrv1 rfl rfl _ rfl

theorem callD_ok (hm : P.follows .mixedOrders = true) (hn : NoNG P) (hc : CFok P G callF) {n : Nat} {f : FuncId} {rv : AV} {args : List AV} {s s' : St} {E : Env} {w : World} {vs : List Value} {u : FrameMode}
    (h : Rel E s w) (hG : GlobOk E G w) (ha : VRL E args vs) (hrv : Recov E rv u) (hr : callD P G callF n f rv args s = some s') :
    Enters P f ∧ CallsD P f ⟨vs⟩ u w fun e u' w' => ∃ v' E', e = .returned v' ∧ settle u' = .returning ∧ Step E s w E' s' w' := by
  suffices key : ∀ F, callD P G callF n f = F → F rv args s = some s' → _ from key _ rfl hr
  intro F hF hr
  unfold callD at hF
  split at hF
  rotate_left
  · subst hF; cases hr
  rename_i fn hfn
  split at hF
  rotate_left
  · subst hF; cases hr
  rename_i id ops rest hbody
  split at hF
  rotate_left
  · rename_i r hops
    exact callD_one hm hn hc h hG ha hrv hfn hbody hops hF hr
  · subst hF; cases hr
  rename_i r o hops
  split at hF
  rotate_left
  · subst hF; cases hr
  rename_i as ts x hop hg1 hox hg2
  rcases Bool.eq_false_or_eq_true fn.results.toList.isEmpty with hb | hb
  rotate_left
  · rw [cond_of_false hb] at hF; subst hF; cases hr
  rw [cond_of_true hb] at hF
  subst hF
  simp only at hr
  rcases Bool.eq_false_or_eq_true (Nat.ble args.length fn.ntmps) with hl | hl
  rotate_left
  · rw [cond_of_false hl] at hr; cases hr
  rw [cond_of_true hl] at hr
  have hle := Nat.le_of_ble_eq_true hl
  have hres : fn.results = #[] := by
    have : fn.results.toList = [] := by simpa using hb
    exact Array.toList_eq_nil_iff.1 this
  refine ⟨⟨fn, hfn, by rw [hbody]; rfl, hn f fn hfn⟩, callsD_of_wpS hfn hbody fun c₀ cs hu => wpS_seq (wpS_region ?_)⟩
  have h0 : ops[0]? = some r := by
    have : ops.toList[0]? = some r := by rw [hops]; rfl
    simpa using this
  have h1 : ops[1]? = some o := by
    have : ops.toList[1]? = some o := by rw [hops]; rfl
    simpa using this
  have hsz : ops.size = 2 := by rw [← Array.length_toList, hops]; rfl
  have ht0 := enter_TR ha hle
  have hw : ∀ (y : Nat → Option Bool) (o : Oper), o.guard = none → Region.wanted o y = true := fun y o hg => by unfold Region.wanted; rw [hg]
  have hrec : ∀ (a : Act), (execOp a.eval r).run P w = .ok .recover w := fun a => by simp [execOp, hop, resolve, invoke, builtin]
  have hasn : ∀ (a : Act), (execOp a.eval o).run P w = .ok (.value (a.eval x)) w := fun a => by simp [execOp, hox]
  -- the rest
  have fin : ∀ (v : Value) (u' : FrameMode) (cs' : List Frame), VR E rv v → cs' = { c₀ with mode := u' } :: cs → settle u' = .returning → ∀ a1, a1 = ({ tmps := (⟨vs⟩ : Array Value) ++ Array.replicate (fn.ntmps - vs.length) undef, defers := [] } : Act).put r.dst v →
      rest.wpS P (bodyPostS P fn c₀ cs fun e u' w' => ∃ v' E', e = .returned v' ∧ settle u' = .returning ∧ Step E s w E' s' w') (a1.put o.dst (a1.eval x)) cs' w := by
    intro v u' cs' hv hcs hu' a1 ha1
    have ht1 := ht0.putC r.dst hv
    rw [← ha1] at ht1
    have ht2 := ht1.putC o.dst (evC_ok hG ht1 x)
    refine wpS_of_wp ?_
    split at hr
    · rename_i out t s1 e1
      refine (exec_ok hm hc n rest).go h hG ht2 e1 fun e a' w' E' hs hta ho => ?_
      have hds := hta.ds
      split at hr
      · rename_i hd
        cases hr
        rw [ho.normal]
        rw [hd] at hds
        generalize hdd : a'.defers = dd at hds
        cases hds
        exact ⟨hdd, u', hcs, .tuple #[], results_none hres _ _ _, _, E', rfl, hu', hs⟩
      · rename_i hd
        cases hr
        have : e = .ret := by cases e <;> first | rfl | cases ho
        subst this
        rw [hd] at hds
        generalize hdd : a'.defers = dd at hds
        cases hds
        exact ⟨hdd, u', hcs, .tuple #[], results_none hres _ _ _, _, E', rfl, hu', hs⟩
      · cases hr
    · cases hr
  rw [hsz]
  show wpOpsS P ops _ [0, 1] _ _ _
  unfold wpOpsS
  simp only [h0, hw _ r hg1, if_true, hrec]
  rcases hrv with ⟨hu1, hrv1⟩ | ⟨v, hu1, hrv1⟩
  · have hrD : recoverD (c₀ :: cs) = none := by simp [recoverD, hu, hu1]
    rw [hrD]
    simp only
    unfold wpOpsS
    simp only [h1, hw _ o hg2, if_true, hasn]
    subst hrv1
    exact fin .nilIface .returning (c₀ :: cs) .nilifc (by rw [← hu1, ← hu]) rfl _ rfl
  · have hrD : recoverD (c₀ :: cs) = some (v, { c₀ with mode := .panicking [{ v := v, recovered := true }] } :: cs) := by simp [recoverD, hu, hu1]
    rw [hrD]
    simp only
    unfold wpOpsS
    simp only [h1, hw _ o hg2, if_true, hasn]
    exact fin v (.panicking [{ v := v, recovered := true }]) _ hrv1 rfl rfl _ rfl

theorem callE_ok (hm : P.follows .mixedOrders = true) (hn : NoNG P) (hc : CFok P G callF) {n : Nat} {f : FuncId} {args : List AV} {s s' : St} {E : Env} {w : World} {vs : List Value}
    (h : Rel E s w) (hG : GlobOk E G w) (ha : VRL E args vs) (hr : callE P G callF n f args s = some s') :
    Enters P f ∧ CallsD P f ⟨vs⟩ .returning w fun e u' w' => ∃ v' E', e = .returned v' ∧ settle u' = .returning ∧ Step E s w E' s' w' := by
  suffices key : ∀ F, callE P G callF n f = F → F args s = some s' → _ from key _ rfl hr
  intro F hF hr
  unfold callE at hF
  split at hF
  rotate_left
  · subst hF; cases hr
  rename_i fn hfn
  split at hF
  rotate_left
  · subst hF; cases hr
  rename_i body hbody
  rcases Bool.eq_false_or_eq_true fn.results.toList.isEmpty with hb | hb
  rotate_left
  · rw [cond_of_false hb] at hF; subst hF; cases hr
  rw [cond_of_true hb] at hF
  subst hF
  simp only at hr
  rcases Bool.eq_false_or_eq_true (Nat.ble args.length fn.ntmps) with hl | hl
  rotate_left
  · rw [cond_of_false hl] at hr; cases hr
  rw [cond_of_true hl] at hr
  have hle := Nat.le_of_ble_eq_true hl
  have hres : fn.results = #[] := by
    have : fn.results.toList = [] := by simpa using hb
    exact Array.toList_eq_nil_iff.1 this
  refine ⟨⟨fn, hfn, by rw [hbody]; rfl, hn f fn hfn⟩, callsD_of_wpS hfn hbody fun c₀ cs hu => ?_⟩
  have ht1 := enter_TR ha hle
  refine wpS_of_wp ?_
  split at hr
  · rename_i out t s1 e1
    refine (exec_ok hm hc n body).go h hG ht1 e1 fun e a' w' E' hs hta ho => ?_
    have hds := hta.ds
    split at hr
    · rename_i hd
      cases hr
      rw [ho.normal]
      rw [hd] at hds
      generalize hdd : a'.defers = dd at hds
      cases hds
      exact ⟨hdd, .returning, by rw [← hu], .tuple #[], results_none hres _ _ _, _, E', rfl, rfl, hs⟩
    · rename_i hd
      cases hr
      have : e = .ret := by cases e <;> first | rfl | cases ho
      subst this
      rw [hd] at hds
      generalize hdd : a'.defers = dd at hds
      cases hds
      exact ⟨hdd, .returning, by rw [← hu], .tuple #[], results_none hres _ _ _, _, E', rfl, rfl, hs⟩
    · cases hr
  · cases hr

/-- How a frame leaves its code. -/
def ModeOk (E : Env) : Out → FrameMode → Prop
  | .ret, u => u = .returning
  | .panic x, u => ∃ v, u = .panicking [{ v := v, recovered := false }] ∧ VR E x v
  | _, _ => False

theorem leaves_ok (hm : P.follows .mixedOrders = true) (hn : NoNG P) (hc : CFok P G callF) {n : Nat} {fn : Func} {t : T} {a : Act} {R : Ending → World → Prop} {E0 : Env} {s0 : St} {w0 : World} {o2 : Out} {s2 : St}
    (hR : ∀ E w u, Step E0 s0 w0 E s2 w → ModeOk E o2 u → TR E t a → Leaves P fn a.tmps R [] u w) : ∀ (l : List (FuncId × List AV)) (ds : List Deferred) (o : Out) (u : FrameMode) {E : Env} {s : St} {w : World},
    Step E0 s0 w0 E s w → GlobOk E G w → TR E t a → DfrsR E l ds → ModeOk E o u → runDs (callB P G callF n) l o s = some (o2, s2) → Leaves P fn a.tmps R ds u w
  | [], ds, o, u, E, s, w, hs, hG, ht, hd, hmo, hr => by
    cases hd
    simp only [runDs, Option.some.injEq, Prod.mk.injEq] at hr
    obtain ⟨rfl, rfl⟩ := hr
    exact hR E w u hs hmo ht
  | (f, args) :: l, ds, o, u, E, s, w, hs, hG, ht, hd, hmo, hr => by
    cases hd with
    | cons hd hds =>
      rename_i d ds
      obtain ⟨cap, h1, h2⟩ := hd
      simp only [runDs] at hr
      split at hr
      · rename_i s1 e1
        have hrv : Recov E (rcOf o) u := by
          cases o with
          | ret => exact .inl ⟨hmo, rfl⟩
          | panic x => exact .inr hmo
          | normal => exact hmo.elim
          | exit i => exact hmo.elim
        obtain ⟨hent, hcall⟩ : Enters P f ∧ CallsD P f ⟨d.args.toList ++ cap⟩ u w fun e u' w' => ∃ v' E', e = .returned v' ∧ settle u' = .returning ∧ Step E s w E' s1 w' := by
          unfold callB at e1
          split at e1
          · rename_i s2 e2
            cases e1
            exact callD_ok hm hn hc hs.rel hG h2 hrv e2
          · split at e1
            · have hmo : u = .returning := hmo
              subst hmo
              exact callE_ok hm hn hc hs.rel hG h2 e1
            · cases e1
        refine ⟨?_, .func f, ⟨cap⟩, f, ⟨d.args.toList ++ cap⟩, h1, ?_, ?_⟩
        · rintro rfl
          cases o with
          | ret => cases hmo
          | panic x => obtain ⟨v, hv, _⟩ := hmo; cases hv
          | normal => exact hmo
          | exit i => exact hmo
        · rw [h1]
          have : (⟨d.args.toList ++ cap⟩ : Array Value) = d.args ++ ⟨cap⟩ := by apply Array.ext'; simp
          rw [this]
          exact run_callFunc hent _ _
        · refine CallsD.mono hcall fun e u' w' ⟨v', E', he, hset, hst⟩ => ?_
          subst he
          simp only
          rw [hset]
          exact leaves_ok hm hn hc hR l ds .ret .returning (hs.trans hst) (hG.step hs.rel hst) (ht.mono hst.le) (hds.mono hst.le) rfl hr
      · cases hr

theorem endC_ok (hm : P.follows .mixedOrders = true) (hn : NoNG P) (hc : CFok P G callF) {n : Nat} {fn : Func} {t : T} {a : Act} {E0 E : Env} {s0 s : St} {w0 w : World} {o : Out} {u : FrameMode} {r : Res}
    (hs : Step E0 s0 w0 E s w) (hG : GlobOk E G w) (ht : TR E t a) (hmo : ModeOk E o u) (hr : endC P fn.results.toList (callB P G callF n) o t s = r) (hf : r ≠ .fail)
    {R : Ending → World → Prop} (h1 : ∀ x s', r = .ret x s' → ∀ v w' E', Step E0 s0 w0 E' s' w' → VR E' x v → R (.returned v) w')
    (h2 : ∀ x s', r = .panic x s' → ∀ v w' E', Step E0 s0 w0 E' s' w' → VR E' x v → R (.panicked [{ v := v, recovered := false }]) w') : Leaves P fn a.tmps R a.defers u w := by
  unfold endC at hr
  split at hr
  · rename_i x s2 e
    refine leaves_ok hm hn hc (fun E' w' u' hs' hmo' _ => ?_) t.ds a.defers o u hs hG ht ht.ds hmo e
    obtain ⟨v, rfl, hv⟩ := hmo'
    exact h2 x s2 hr.symm v w' E' hs' hv
  · rename_i o2 s2 hne e
    split at hr
    · rename_i l hl
      refine leaves_ok hm hn hc (fun E' w' u' hs' hmo' ht' => ?_) t.ds a.defers o u hs hG ht ht.ds hmo e
      obtain ⟨v, hv, hrun⟩ := results_ok hs'.rel ht' hl
      cases o2 with
      | ret =>
        have : u' = .returning := hmo'
        subst this
        exact ⟨v, hrun, h1 _ s2 hr.symm v w' E' hs' hv⟩
      | panic x => exact absurd rfl (hne x)
      | normal => exact hmo'.elim
      | exit i => exact hmo'.elim
    · exact absurd hr.symm hf
  · exact absurd hr.symm hf

theorem bodyC_ok (hm : P.follows .mixedOrders = true) (hn : NoNG P) (hc : CFok P G callF) (n : Nat) (f : FuncId) (args : List AV) (s : St) (E : Env) (w : World) (vs : List Value) (h : Rel E s w) (hG : GlobOk E G w) (ha : VRL E args vs) :
    ResOk P E s w f vs (bodyC P G callF n P.funcs[f]? args s) := by
  generalize hr : bodyC P G callF n P.funcs[f]? args s = r
  by_cases hfail : r = .fail
  · subst hfail; trivial
  unfold bodyC at hr
  cases hfn : P.funcs[f]? with
  | none => rw [hfn] at hr; exact absurd hr.symm hfail
  | some fn =>
    cases hb : fn.body with
    | none => simp only [hfn, hb] at hr; exact absurd hr.symm hfail
    | some c =>
      simp only [hfn, hb] at hr
      rcases Bool.eq_false_or_eq_true (Nat.ble args.length fn.ntmps) with hl | hl
      rotate_left
      · rw [cond_of_false hl] at hr; exact absurd hr.symm hfail
      rw [cond_of_true hl] at hr
      have hle := Nat.le_of_ble_eq_true hl
      have hent : Enters P f := ⟨fn, hfn, by rw [hb]; rfl, hn f fn hfn⟩
      have main : ∀ (R : Ending → World → Prop), (∀ x s', r = .ret x s' → ∀ v w' E', Step E s w E' s' w' → VR E' x v → R (.returned v) w') →
          (∀ x s', r = .panic x s' → ∀ v w' E', Step E s w E' s' w' → VR E' x v → R (.panicked [{ v := v, recovered := false }]) w') → Calls P f ⟨vs⟩ w R := by
        intro R h1 h2
        refine calls_of_wp_defers hfn hb ?_
        unfold finC at hr
        split at hr
        · rename_i o t s1 e1
          refine (exec_ok hm hc n c).go h hG (enter_TR ha hle) e1 fun e a' w' E' hs hta ho => ?_
          split at hr
          · rw [ho.normal]
            exact endC_ok hm hn hc (o := .ret) (u := .returning) hs (hG.step h hs) hta rfl hr hfail h1 h2
          · have : e = .ret := by cases e <;> first | rfl | cases ho
            subst this
            exact endC_ok hm hn hc (o := .ret) (u := .returning) hs (hG.step h hs) hta rfl hr hfail h1 h2
          · cases e with
            | panic ch =>
              obtain ⟨v, hv, hvr⟩ := ho
              subst hv
              rename_i x2
              exact endC_ok hm hn hc (o := .panic x2) (u := .panicking [{ v := v, recovered := false }]) hs (hG.step h hs) hta ⟨v, rfl, hvr⟩ hr hfail h1 h2
            | _ => cases ho
          · exact absurd hr.symm hfail
        · exact absurd hr.symm hfail
      cases r with
      | fail => trivial
      | ret x s' =>
        refine .inl ⟨hent, main _ (fun x2 s2 e v w' E' hs hv => ?_) (fun x2 s2 e => by cases e)⟩
        cases e
        exact ⟨v, E', rfl, hs, hv⟩
      | panic x s' =>
        refine ⟨hent, main _ (fun x2 s2 e => by cases e) (fun x2 s2 e v w' E' hs hv => ?_)⟩
        cases e
        exact ⟨v, E', rfl, hs, hv⟩

/-- What is known of functions by other roads is so. -/
def KnownOk (P : Program) (G : Glob) (X : Known) : Prop := ∀ (f : FuncId) (h : List AV → St → Res), X f = some h →
  ∀ (args : List AV) (s : St) (E : Env) (w : World) (vs : List Value), Rel E s w → GlobOk E G w → VRL E args vs → ResOk P E s w f vs (h args s)

theorem callN_ok (hm : P.follows .mixedOrders = true) (hn : NoNG P) {X : Known} (hX : KnownOk P G X) (loops : Nat) : ∀ n, CFok P G (callN P G X loops n)
  | 0 => fun _ _ _ _ _ _ _ _ _ => trivial
  | n + 1 => fun f args s E w vs h hG ha => by
    simp only [callN]
    cases hx : X f with
    | none => exact bodyC_ok hm hn (callN_ok hm hn hX loops n) loops f args s E w vs h hG ha
    | some k => exact hX f k hx args s E w vs h hG ha

/-- A call that returns, for one who asks the model. -/
theorem returns_of_body (hm : P.follows .mixedOrders = true) (hn : NoNG P) {X : Known} (hX : KnownOk P G X) {loops n : Nat} {f : FuncId} {args : List AV} {s s' : St} {E : Env} {w : World} {vs : List Value} {x : AV}
    (h : Rel E s w) (hG : GlobOk E G w) (ha : VRL E args vs) (hr : bodyC P G (callN P G X loops n) loops P.funcs[f]? args s = .ret x s') (hb : ∀ fn, P.funcs[f]? = some fn → fn.body.isSome = true) :
    Calls P f ⟨vs⟩ w fun e w' => ∃ v' E', e = .returned v' ∧ Step E s w E' s' w' ∧ VR E' x v' := by
  have := bodyC_ok hm hn (callN_ok hm hn hX loops n) loops f args s E w vs h hG ha
  rw [hr] at this
  rcases this with ⟨_, h2⟩ | ⟨v', w', E', h1, _, _⟩
  · exact h2
  · cases hf : P.funcs[f]? with
    | none => rw [hf] at hr; simp [bodyC] at hr
    | some fn =>
      have h3 := hb fn hf
      have h4 := run_callFunc ⟨fn, hf, h3, hn f fn hf⟩ ⟨vs⟩ w
      rw [h4] at h1
      cases h1
end
end Go.Am
end
