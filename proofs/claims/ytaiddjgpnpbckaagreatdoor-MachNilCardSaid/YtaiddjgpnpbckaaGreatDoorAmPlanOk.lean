/- What a plan says. -/
import Derived.Test.YtaiddjgpnpbckaaGreatDoorAmNew
set_option autoImplicit false
namespace Go.Am

theorem subset_bit {a b j : Nat} (h : subset a b = true) (hj : a.testBit j = true) : b.testBit j = true := by
  have h1 : a &&& b = a := Nat.eq_of_beq_eq_true h
  have : (a &&& b).testBit j = true := by rw [h1]; exact hj
  rw [Nat.testBit_and, Bool.and_eq_true] at this
  exact this.2

theorem bit_or {a j k : Nat} : (a ||| 2 ^ k).testBit j = true ↔ a.testBit j = true ∨ k = j := by
  rw [Nat.testBit_or, Bool.or_eq_true, Nat.testBit_two_pow]; simp

theorem hasN_iff {d : Nat} : ∀ {l : List Nat}, hasN d l = true ↔ d ∈ l
  | [] => by simp [hasN]
  | x :: l => by
    simp only [hasN]
    rcases Bool.eq_false_or_eq_true (x.beq d) with h | h
    · have := Nat.eq_of_beq_eq_true h
      subst this; simp
    · have : x ≠ d := fun e => by subst e; simp at h
      rw [cond_of_false h, hasN_iff, List.mem_cons]
      constructor
      · exact .inr
      · rintro (h1 | h1)
        · exact absurd h1.symm this
        · exact h1

theorem orAll_bit {acc : List Nat} {j : Nat} : ∀ {l : List Nat}, (orAll acc l).testBit j = true ↔ ∃ e ∈ l, e = j ∨ (acc.getD e 0).testBit j = true
  | [] => by simp [orAll]
  | e :: l => by
    simp only [orAll]
    rw [Nat.testBit_or, Nat.testBit_or, Bool.or_eq_true, Bool.or_eq_true, Nat.testBit_two_pow, orAll_bit]
    simp

theorem befGo_spec : ∀ (os : List Oper) (acc : List Nat), (befGo os acc).length = acc.length + os.length ∧ (∀ i, i < acc.length → (befGo os acc)[i]? = acc[i]?) ∧
    ∀ k o, os[k]? = some o → (befGo os acc)[acc.length + k]? = some (orAll ((befGo os acc).take (acc.length + k)) (edgesOf o))
  | [], acc => ⟨by simp [befGo], fun _ _ => rfl, fun k o h => by simp at h⟩
  | o :: os, acc => by
    obtain ⟨h1, h2, h3⟩ := befGo_spec os (acc ++ [orAll acc (edgesOf o)])
    simp only [befGo]
    refine ⟨by rw [h1]; simp; omega, fun i hi => by rw [h2 i (by simp; omega), List.getElem?_append_left hi], fun k o' hk => ?_⟩
    cases k with
    | zero =>
      simp only [List.getElem?_cons_zero, Option.some.injEq] at hk
      subst hk
      have : (befGo os (acc ++ [orAll acc (edgesOf o)])).take acc.length = acc := by
        apply List.ext_getElem?
        intro i
        rw [List.getElem?_take]
        split
        · rename_i hi; rw [h2 i (by simp; omega), List.getElem?_append_left hi]
        · rename_i hi; rw [List.getElem?_eq_none (by omega)]
      rw [Nat.add_zero, this, h2 acc.length (by simp)]
      simp
    | succ k =>
      have := h3 k o' (by simpa using hk)
      simp only [List.length_append, List.length_singleton] at this
      rw [show acc.length + (k + 1) = acc.length + 1 + k by omega]
      exact this

def befs (ops : Array Oper) : List Nat := befGo ops.toList []

theorem befs_bit {ops : Array Oper} {i : Nat} {o : Oper} (ho : ops[i]? = some o) {j : Nat} :
    ((befs ops).getD i 0).testBit j = true ↔ ∃ e ∈ edgesOf o, e = j ∨ (e < i ∧ ((befs ops).getD e 0).testBit j = true) := by
  obtain ⟨h1, _, h3⟩ := befGo_spec ops.toList []
  have := h3 i o (by simpa using ho)
  simp only [List.length_nil, Nat.zero_add] at this
  have e1 : (befs ops).getD i 0 = orAll ((befs ops).take i) (edgesOf o) := by
    unfold befs; rw [List.getD_eq_getElem?_getD, this]; rfl
  rw [e1, orAll_bit]
  constructor
  · rintro ⟨e, he, h | h⟩
    · exact ⟨e, he, .inl h⟩
    · refine ⟨e, he, .inr ?_⟩
      by_cases hlt : e < i
      · refine ⟨hlt, ?_⟩
        rw [List.getD_eq_getElem?_getD, List.getElem?_take, if_pos hlt] at h
        rwa [List.getD_eq_getElem?_getD]
      · rw [List.getD_eq_getElem?_getD, List.getElem?_take, if_neg hlt] at h
        simp at h
  · rintro ⟨e, he, h | ⟨hlt, h⟩⟩
    · exact ⟨e, he, .inl h⟩
    · refine ⟨e, he, .inr ?_⟩
      rw [List.getD_eq_getElem?_getD, List.getElem?_take, if_pos hlt]
      rwa [List.getD_eq_getElem?_getD] at h

theorem platsGo_spec {P : Program} {ops : Array Oper} : ∀ {i : Nat} {bs : List Nat} {os : List Oper} {p : Plat}, p ∈ platsGo P ops i bs os →
    ∃ k, p.i = i + k ∧ os[k]? = some p.o ∧ bs[k]? = some p.bef ∧ p.kd = kdOf P p.o ∧ p.dst = p.o.dst ∧ p.looks = p.o.looksAt ops
  | i, [], os, p, h => by simp [platsGo] at h
  | i, b :: bs, [], p, h => by simp [platsGo] at h
  | i, b :: bs, o :: os, p, h => by
    simp only [platsGo, List.mem_cons] at h
    rcases h with rfl | h
    · exact ⟨0, rfl, rfl, rfl, rfl, rfl, rfl⟩
    · obtain ⟨k, h1, h2, h3, h4⟩ := platsGo_spec h
      exact ⟨k + 1, by omega, h2, h3, h4⟩

theorem platsGo_all {P : Program} {ops : Array Oper} : ∀ {i : Nat} {bs : List Nat} {os : List Oper}, bs.length = os.length → ∀ k, k < os.length → ∃ p ∈ platsGo P ops i bs os, p.i = i + k
  | i, [], [], _, k, h => by simp at h
  | i, b :: bs, [], h, _, _ => by simp at h
  | i, [], o :: os, h, _, _ => by simp at h
  | i, b :: bs, o :: os, h, k, hk => by
    simp only [platsGo]
    cases k with
    | zero => exact ⟨_, List.mem_cons_self .., rfl⟩
    | succ k =>
      obtain ⟨p, h1, h2⟩ := platsGo_all (P := P) (ops := ops) (i := i + 1) (by simpa using h) k (by simpa using hk)
      exact ⟨p, List.mem_cons_of_mem _ h1, by omega⟩

theorem nextOf_mem {done : Nat} {e : Bool} : ∀ {ps : List Plat} {p : Plat}, nextOf done e ps = some p → p ∈ ps
  | [], p, h => by simp [nextOf] at h
  | q :: ps, p, h => by
    simp only [nextOf] at h
    rcases Bool.eq_false_or_eq_true (!done.testBit q.i && subset q.bef done && (e || !q.kd.isEff)) with hb | hb
    · rw [cond_of_true hb] at h; cases h; simp
    · rw [cond_of_false hb] at h; exact List.mem_cons_of_mem _ (nextOf_mem h)

theorem orderOf_mem {ps : List Plat} : ∀ {f done : Nat} {p : Plat}, p ∈ orderOf ps f done → p ∈ ps
  | 0, _, p, h => by simp [orderOf] at h
  | f + 1, done, p, h => by
    simp only [orderOf] at h
    split at h
    · rename_i q hq
      rcases List.mem_cons.1 h with rfl | h
      · split at hq
        · rename_i q' hq'; cases hq; exact nextOf_mem hq'
        · exact nextOf_mem hq
      · exact orderOf_mem h
    · simp at h

/-- What 'done' holds stands ahead. -/
theorem orderOk_spec : ∀ {l front : List Plat} {done effs : Nat}, orderOk done effs l = true →
    (∀ j, done.testBit j = true ↔ ∃ p ∈ front, p.i = j) → (∀ j, effs.testBit j = true ↔ ∃ p ∈ front, p.kd.isEff = true ∧ p.i = j) →
    ∀ k p, l[k]? = some p → (∀ j, p.bef.testBit j = true → ∃ q ∈ front ++ l.take k, q.i = j) ∧ (∀ q ∈ front ++ l.take k, q.i ≠ p.i) ∧
      ∀ q ∈ front ++ l.take k, q.kd.isEff = true → p.bef.testBit q.i = true
  | [], _, _, _, _, _, _, k, p, h => by simp at h
  | q :: l, front, done, effs, h, hd, he, k, p, hk => by
    simp only [orderOk, Bool.and_eq_true] at h
    obtain ⟨h1, h2, h3, h4⟩ := h
    cases k with
    | zero =>
      simp only [List.getElem?_cons_zero, Option.some.injEq] at hk
      subst hk
      simp only [List.take_zero, List.append_nil]
      refine ⟨fun j hj => (hd j).1 (subset_bit h1 hj), fun r hr e => ?_, fun r hr hre => subset_bit h3 ((he _).2 ⟨r, hr, hre, rfl⟩)⟩
      have := (hd q.i).2 ⟨r, hr, e⟩
      rw [this] at h2; simp at h2
    | succ k =>
      have := orderOk_spec (front := front ++ [q]) h4 (fun j => by
        rw [bit_or, hd]
        constructor
        · rintro (⟨r, hr, e⟩ | e)
          · exact ⟨r, by simp [hr], e⟩
          · exact ⟨q, by simp, e⟩
        · rintro ⟨r, hr, e⟩
          rcases List.mem_append.1 hr with hr | hr
          · exact .inl ⟨r, hr, e⟩
          · simp at hr; subst hr; exact .inr e) (fun j => by
        rcases Bool.eq_false_or_eq_true q.kd.isEff with hq | hq
        · rw [hq, cond_true, bit_or, he]
          constructor
          · rintro (⟨r, hr, e⟩ | e)
            · exact ⟨r, by simp [hr], e⟩
            · exact ⟨q, by simp, hq, e⟩
          · rintro ⟨r, hr, e⟩
            rcases List.mem_append.1 hr with hr | hr
            · exact .inl ⟨r, hr, e⟩
            · simp at hr; subst hr; exact .inr e.2
        · rw [hq, cond_false, he]
          constructor
          · rintro ⟨r, hr, e⟩; exact ⟨r, by simp [hr], e⟩
          · rintro ⟨r, hr, e⟩
            rcases List.mem_append.1 hr with hr | hr
            · exact ⟨r, hr, e⟩
            · simp at hr; subst hr; rw [hq] at e; cases e.1) k p (by simpa using hk)
      simpa using this

theorem itemsOf_spec : ∀ {l front : List Plat} {items : List Item}, itemsOf front l = some items → items.length = l.length ∧
    ∀ k p, l[k]? = some p → ∃ it, items[k]? = some it ∧ it.p = p ∧ (p.kd.isEff = true →
      (∀ f ∈ floats p (front ++ l.take k), f.kd.isRead = true → floatOk p (front ++ l.take k) f = true ∧ f.o ∈ it.chk) ∧ ∀ f ∈ floats p (front ++ l.take k), ∀ d, f.dst = some d → d ∈ it.fl)
  | [], _, items, h => by simp [itemsOf] at h; subst h; simp
  | q :: l, front, items, h => by
    simp only [itemsOf] at h
    split at h
    · rename_i is his
      obtain ⟨h1, h2⟩ := itemsOf_spec his
      have tail : ∀ k p, l[k]? = some p → ∃ it, is[k]? = some it ∧ it.p = p ∧ (p.kd.isEff = true →
          (∀ f ∈ floats p (front ++ (q :: l).take (k + 1)), f.kd.isRead = true → floatOk p (front ++ (q :: l).take (k + 1)) f = true ∧ f.o ∈ it.chk) ∧ ∀ f ∈ floats p (front ++ (q :: l).take (k + 1)), ∀ d, f.dst = some d → d ∈ it.fl) := by
        intro k p hk
        have := h2 k p hk
        simpa using this
      rcases Bool.eq_false_or_eq_true q.kd.isEff with hq | hq
      · rw [hq, cond_true] at h
        rcases Bool.eq_false_or_eq_true ((floats q front).all fun f => !f.kd.isRead || floatOk q front f) with hb | hb
        · rw [cond_of_true hb] at h
          cases h
          refine ⟨by simp [h1], fun k p hk => ?_⟩
          cases k with
          | zero =>
            simp only [List.getElem?_cons_zero, Option.some.injEq] at hk
            subst hk
            refine ⟨_, rfl, rfl, fun _ => ?_⟩
            simp only [List.take_zero, List.append_nil]
            refine ⟨fun f hf hr => ⟨?_, ?_⟩, fun f hf d hd => ?_⟩
            · have := List.all_eq_true.1 hb f hf
              simpa [hr] using this
            · exact List.mem_map.2 ⟨f, List.mem_filter.2 ⟨hf, hr⟩, rfl⟩
            · exact List.mem_filterMap.2 ⟨f, hf, hd⟩
          | succ k => exact tail k p (by simpa using hk)
        · rw [cond_of_false hb] at h; cases h
      · rw [hq, cond_false] at h
        cases h
        refine ⟨by simp [h1], fun k p hk => ?_⟩
        cases k with
        | zero =>
          simp only [List.getElem?_cons_zero, Option.some.injEq] at hk
          subst hk
          exact ⟨_, rfl, rfl, fun e => by rw [hq] at e; cases e⟩
        | succ k => exact tail k p (by simpa using hk)
    · cases h

/-- What the region's walk needs of its plan. -/
structure PlanOk (P : Program) (ops : Array Oper) (l : List Plat) (items : List Item) : Prop where
  plat : ∀ (k : Nat) (p : Plat), l[k]? = some p → ops[p.i]? = some p.o ∧ p.kd = kdOf P p.o ∧ p.dst = p.o.dst ∧ p.looks = p.o.looksAt ops ∧ p.bef = (befs ops).getD p.i 0
  all : ∀ i, i < ops.size → ∃ (k : Nat) (p : Plat), l[k]? = some p ∧ p.i = i
  ord : ∀ (k : Nat) (p : Plat), l[k]? = some p → ∀ j, p.bef.testBit j = true → ∃ (k' : Nat) (p' : Plat), k' < k ∧ l[k']? = some p' ∧ p'.i = j
  uniq : ∀ (k k' : Nat) (p p' : Plat), l[k]? = some p → l[k']? = some p' → p.i = p'.i → k = k'
  chain : ∀ (k : Nat) (p : Plat), l[k]? = some p → ∀ (k' : Nat) (q : Plat), k' < k → l[k']? = some q → q.kd.isEff = true → p.bef.testBit q.i = true
  pairs : ∀ (k k' : Nat) (p q : Plat), l[k]? = some p → l[k']? = some q → pairOk p q = true
  len : items.length = l.length
  size : l.length = ops.size
  item : ∀ (k : Nat) (p : Plat), l[k]? = some p → ∃ it, items[k]? = some it ∧ it.p = p ∧ (p.kd.isEff = true →
      (∀ (k' : Nat) (f : Plat), k' < k → l[k']? = some f → f.kd.isEff = false → p.bef.testBit f.i = false →
        (f.kd.isRead = true → (∀ (j : Nat) (q : Plat) (d : Nat), j ≤ k → l[j]? = some q → q.dst = some d → d ∈ f.looks → f.bef.testBit q.i = true) ∧ f.o ∈ it.chk) ∧ ∀ d, f.dst = some d → d ∈ it.fl))
  nosel : ∀ (i : Nat) (o : Oper), ops[i]? = some o → noSel o = true

theorem mem_take {α : Type} {l : List α} {k : Nat} {x : α} : x ∈ l.take k ↔ ∃ j, j < k ∧ l[j]? = some x := by
  rw [List.mem_iff_getElem?]
  constructor
  · rintro ⟨j, hj⟩
    rw [List.getElem?_take] at hj
    split at hj
    · exact ⟨j, ‹_›, hj⟩
    · cases hj
  · rintro ⟨j, hj, e⟩
    exact ⟨j, by rw [List.getElem?_take, if_pos hj]; exact e⟩

theorem planOf_ok {P : Program} {ops : Array Oper} {items : List Item} (h : planOf P ops = some items) : ∃ l, PlanOk P ops l items := by
  unfold planOf at h
  simp only at h
  generalize hl : orderOf (platsGo P ops 0 (befGo ops.toList []) ops.toList) ops.toList.length 0 = l at h
  rcases Bool.eq_false_or_eq_true (l.length.beq ops.toList.length && ((platsGo P ops 0 (befGo ops.toList []) ops.toList).all fun p => hasN p.i (l.map (·.i))) && orderOk 0 0 l && pairsOk l && ops.toList.all noSel) with hb | hb
  · rw [cond_of_true hb] at h
    simp only [Bool.and_eq_true] at hb
    obtain ⟨⟨⟨⟨b1, b2⟩, b3⟩, b4⟩, b5⟩ := hb
    have hord := orderOk_spec (front := []) b3 (by simp) (by simp)
    simp only [List.nil_append] at hord
    obtain ⟨i1, i2⟩ := itemsOf_spec h
    simp only [List.nil_append] at i2
    have hlen : (befGo ops.toList []).length = ops.toList.length := by rw [(befGo_spec ops.toList []).1]; simp
    have huniq : ∀ (k k' : Nat) (p p' : Plat), k' < k → l[k]? = some p → l[k']? = some p' → p.i ≠ p'.i := fun k k' p p' hlt hk hk' e =>
      (hord k p hk).2.1 p' (mem_take.2 ⟨k', hlt, hk'⟩) e.symm
    refine ⟨l, ?_, ?_, ?_, ?_, ?_, ?_, i1, by rw [Nat.eq_of_beq_eq_true b1]; simp, ?_, ?_⟩
    · intro k p hk
      have hm : p ∈ platsGo P ops 0 (befGo ops.toList []) ops.toList := by
        have := List.mem_of_getElem? hk
        rw [← hl] at this
        exact orderOf_mem this
      obtain ⟨j, j1, j2, j3, j4, j5, j6⟩ := platsGo_spec hm
      rw [Nat.zero_add] at j1
      refine ⟨by rw [j1]; simpa using j2, j4, j5, j6, ?_⟩
      rw [j1, List.getD_eq_getElem?_getD]
      unfold befs
      rw [j3]; rfl
    · intro i hi
      obtain ⟨p, h1, h2⟩ := platsGo_all (P := P) (ops := ops) (i := 0) hlen i (by simpa using hi)
      have := hasN_iff.1 (List.all_eq_true.1 b2 p h1)
      obtain ⟨q, h3, h4⟩ := List.mem_map.1 this
      obtain ⟨k, hk⟩ := List.mem_iff_getElem?.1 h3
      exact ⟨k, q, hk, by omega⟩
    · intro k p hk j hj
      obtain ⟨q, h1, h2⟩ := (hord k p hk).1 j hj
      obtain ⟨k', h3, h4⟩ := mem_take.1 h1
      exact ⟨k', q, h3, h4, h2⟩
    · intro k k' p p' hk hk' e
      rcases Nat.lt_trichotomy k k' with h1 | h1 | h1
      · exact absurd e.symm (huniq k' k p' p h1 hk' hk)
      · exact h1
      · exact absurd e (huniq k k' p p' h1 hk hk')
    · intro k p hk k' q hlt hk' he
      exact (hord k p hk).2.2 q (mem_take.2 ⟨k', hlt, hk'⟩) he
    · intro k k' p q hk hk'
      have := List.all_eq_true.1 b4 p (List.mem_of_getElem? hk)
      exact List.all_eq_true.1 this q (List.mem_of_getElem? hk')
    · intro k p hk
      obtain ⟨it, h1, h2, h3⟩ := i2 k p hk
      refine ⟨it, h1, h2, fun he k' f hlt hk' hf hb => ?_⟩
      obtain ⟨h4, h5⟩ := h3 he
      have hm : f ∈ floats p (l.take k) := List.mem_filter.2 ⟨mem_take.2 ⟨k', hlt, hk'⟩, by simp [hf, hb]⟩
      refine ⟨fun hr => ⟨fun j q d hj hq hd hdl => ?_, (h4 f hm hr).2⟩, h5 f hm⟩
      have h6 := (h4 f hm hr).1
      unfold floatOk at h6
      have hq' : q ∈ p :: l.take k := by
        rcases Nat.lt_or_ge j k with h7 | h7
        · exact List.mem_cons_of_mem _ (mem_take.2 ⟨j, h7, hq⟩)
        · have : j = k := by omega
          subst this; rw [hk] at hq; cases hq; simp
      have h8 := List.all_eq_true.1 h6 q hq'
      simp only [hd, Bool.or_eq_true, Bool.not_eq_true'] at h8
      rcases h8 with h8 | h8
      · rw [hasN_iff.2 hdl] at h8; cases h8
      · exact h8
    · intro i o ho
      have : o ∈ ops.toList := by rw [List.mem_iff_getElem?]; exact ⟨i, by simpa using ho⟩
      exact List.all_eq_true.1 b5 o this
  · rw [cond_of_false hb] at h; cases h
end Go.Am
