/- Regions that draw their order, on both sides: effects; all together. -/
import Derived.Test.YtaiddjgpnpbckaaGreatDoorAmDraw2
set_option autoImplicit false
namespace Go.Am

section
variable {P : Program} {G : Glob} {callF : CF} {ops : Array Oper} {Q : Exit → Act → World → Prop} {items : List Item} {l : List Plat} {t0 : T} {s0 : St}
variable {E0 E : Env} {w0 w : World} {m : Nat} {ls : Array Bool} {a : Act} {tm tv : T} {sm : St}

theorem againsC_mem {o : Oper} {t : T} {s : St} : ∀ {chk : List Oper}, againsC P G callF ops chk t s = true → o ∈ chk → againC P G callF ops o t s = true
  | [], _, h => by cases h
  | q :: l, hc, h => by
    simp only [againsC, Bool.and_eq_true] at hc
    rcases List.mem_cons.1 h with rfl | h
    · exact hc.1
    · exact againsC_mem hc.2 h

/-- What a read done once more shows. -/
theorem againC_val {o : Oper} {t : T} {s : St} (h : againC P G callF ops o t s = true) (hg : guardC ops o.guard t = some true) :
    ∃ v s', opC P G callF o t s = .val v s' ∧ ∀ d, o.dst = some d → v = getT (pathOf d) t := by
  unfold againC at h
  cases hd : o.dst with
  | none =>
    simp only [hd, hg, cond_true] at h
    split at h
    · rename_i v s' e; exact ⟨v, s', e, fun d hd => by cases hd⟩
    · cases h
  | some d =>
    simp only [hd, hg, cond_true] at h
    split at h
    · rename_i v s' e
      exact ⟨v, s', e, fun d' hd' => by cases hd'; exact AV.same_eq h⟩
    · cases h

/-- Behind an effect. -/
theorem Inv.next (hp : PlanOk P ops l items) (h : Inv P G callF ops items l t0 s0 E0 w0 m ls a w E tm sm tv) {p : Plat} (hm : l[m]? = some p) (hu : ls.getD p.i false = false)
    (he : ∀ e ∈ edgesOf p.o, ls.getD e false = true) (heff : p.kd.isEff = true) {it : Item} (hit : items[m]? = some it) {t' : T} {s' : St} (htr : trC P G callF ops items t0 s0 (m + 1) = some (t', s'))
    {E' : Env} {a' : Act} {w' : World} {tv' : T} (hs : Step E sm w E' s' w') (ht : TR E' tv' a') (hn : tv'.n = t0.n) (hds : tv'.ds = t'.ds)
    (hne : ∀ x, p.dst ≠ some x → getT (pathOf x) tv' = getT (pathOf x) tv) (hd : ∀ x, p.dst = some x → getT (pathOf x) tv' = getT (pathOf x) t')
    (hck : s' = sm ∨ againsC P G callF ops it.chk t' s' = true) :
    Inv P G callF ops items l t0 s0 E0 w0 (m + 1) (ls.setIfInBounds p.i true) a' w' E' t' s' tv' := by
  have hpi : p.i < ls.size := by
    have := (hp.plat m p hm).1
    rw [h.size]
    exact (Array.getElem?_eq_some_iff.1 this).1
  have hls : ∀ j, ls.getD j false = true → (ls.setIfInBounds p.i true).getD j false = true := fun j hj => by rw [set_get hpi]; split <;> first | rfl | exact hj
  have hun : ∀ (k' : Nat) (q : Plat), l[k']? = some q → (ls.setIfInBounds p.i true).getD q.i false = false → ls.getD q.i false = false ∧ k' ≠ m := fun k' q hq hl => by
    rw [set_get hpi] at hl
    split at hl
    · cases hl
    · rename_i hne
      refine ⟨hl, fun e => ?_⟩
      subst e; rw [hm] at hq; cases hq; exact hne rfl
  have hin : ∀ (k' : Nat) (q : Plat), l[k']? = some q → (ls.setIfInBounds p.i true).getD q.i false = true → k' = m ∨ ls.getD q.i false = true := fun k' q hq hl => by
    rw [set_get hpi] at hl
    split at hl
    · rename_i e; exact .inl (hp.uniq k' m q p hq hm e.symm)
    · exact .inr hl
  obtain ⟨t1, s1, it1, g1, g2, g3, g4⟩ := tr_item hp hm htr
  rw [h.at_] at g1; cases g1
  have hframe : ∀ x, p.dst ≠ some x → getT (pathOf x) t' = getT (pathOf x) tm := fun x hx => (g4.frame rfl).2 x (.inl (by rw [g3]; exact hx))
  have hanc := edges_anc hp h hm he
  refine ⟨by simp [h.size], htr, ?_, ?_, ?_, h.step.trans hs, h.glob.mono hs.le, ht, hn, hds, ?_, ?_, ?_, ?_, ?_⟩
  · intro k q hk hq hqe
    rcases Nat.lt_or_ge k m with h5 | h5
    · exact hls _ (h.done k q h5 hq hqe)
    · have : k = m := by omega
      subst this; rw [hm] at hq; cases hq
      rw [set_get hpi, if_pos rfl]
  · intro k q hq hl
    rcases hin k q hq hl with h5 | h5
    · omega
    · exact Nat.lt_succ_of_lt (h.lim k q hq h5)
  · intro i o hi ho e hem
    rw [set_get hpi] at hi
    split at hi
    · rename_i e1
      subst e1
      rw [(hp.plat m p hm).1] at ho
      cases ho
      exact hls _ (he e hem)
    · exact hls _ (h.cl i o hi ho e hem)
  · intro k q x hq hl hqx
    rcases hin k q hq hl with h5 | h5
    · subst h5; rw [hm] at hq; cases hq; exact hd x hqx
    · have hx : p.dst ≠ some x := fun e => by
        have := hp.writer hq hm hqx e
        subst this
        rw [hm] at hq; cases hq
        rw [hu] at h5; cases h5
      rw [hne x hx, hframe x hx]
      exact h.vis1 k q x hq h5 hqx
  · intro x hx
    rw [hne x (hx m p hm (by rw [set_get hpi, if_pos rfl]))]
    exact h.vis0 x fun k q hq hl => hx k q hq (hls _ hl)
  · intro k k' tk tk' sk sk' hle hle' e1 e2
    rcases Nat.lt_or_ge k' (m + 1) with h5 | h5
    · exact h.mono k k' tk tk' sk sk' hle (by omega) e1 e2
    · have : k' = m + 1 := by omega
      subst this
      rw [htr] at e2; cases e2
      rcases Nat.lt_or_ge k (m + 1) with h6 | h6
      · exact Nat.le_trans (h.mono k m tk tm sk sm (by omega) (Nat.le_refl _) e1 h.at_) hs.next
      · have : k = m + 1 := by omega
        subst this; rw [htr] at e1; cases e1; exact Nat.le_refl _
  · intro k q tk sk hk hq hl hkd e1 hg
    obtain ⟨f1, f2⟩ := hun k q hq hl
    have hkm : k < m := by omega
    obtain ⟨v, f3, f4⟩ := h.pval k q tk sk hkm hq f1 hkd e1 hg
    have hdst : ∀ d, q.dst = some d → getT (pathOf d) t' = getT (pathOf d) tm := fun d hqd => hframe d fun e => by
      have := hp.writer hq hm hqd e
      omega
    rcases hck with hck | hck
    · subst hck
      exact ⟨v, f3, fun d hqd => by rw [f4 d hqd, hdst d hqd]⟩
    · obtain ⟨hop, hqk, hqd', hql, _⟩ := hp.plat k q hq
      rcases hkd with hkd | hkd
      · obtain ⟨_, f5⟩ := (opC_free (P := P) (G := G) (callF := callF) (o := q.o) (by rw [← hqk]; exact hkd)).val f3
        exact ⟨v, f5 s', fun d hqd => by rw [f4 d hqd, hdst d hqd]⟩
      · have hnb : p.bef.testBit q.i = false := by
          cases hb : p.bef.testBit q.i with
          | false => rfl
          | true => rw [hanc q.i hb] at f1; cases f1
        obtain ⟨it2, i1, i2, i3⟩ := hp.item m p hm
        rw [hit] at i1; cases i1
        obtain ⟨i4, _⟩ := i3 heff k q hkm hq (by rw [hkd]; rfl) hnb
        obtain ⟨i5, i6⟩ := i4 (by rw [hkd]; rfl)
        have hag : ∀ x ∈ q.looks, getT (pathOf x) t' = getT (pathOf x) tk := fun x hx =>
          tr_frame' hp e1 htr (by omega) fun j r hj hj2 hr hrx => by
            have := i5 j r x (by omega) hr hrx hx
            obtain ⟨j', r', j1, j2, j3⟩ := hp.ord k q hq r.i this
            have := hp.uniq j' j r' r j2 hr j3
            omega
        obtain ⟨v', s2, a1, a2⟩ := againC_val (againsC_mem hck i6) (by rw [looks_guard hql hag]; exact hg)
        rw [opC_dep (hp.nosel _ _ hop) (looks_ev hql hag)] at a1
        have a3 := (kept hqk (.inr hkd) a1).1
        rw [a3] at a1
        refine ⟨v', a1, fun d hqd => ?_⟩
        have f6 := f4 d hqd
        rw [put_get_same] at f6 ⊢
        by_cases hlt : d < tk.n
        · rw [if_pos hlt]; exact a2 d (by rw [← hqd']; exact hqd)
        · rw [if_neg hlt] at f6 ⊢; rw [f6, hdst d hqd]
  · intro k q tk sk hk hq hl hkd e1 hg
    obtain ⟨f1, f2⟩ := hun k q hq hl
    have hkm : k < m := by omega
    obtain ⟨f3, f4, v, ety, vals, f5, f6, f7⟩ := h.pnew k q tk sk hkm hq f1 hkd e1 hg
    have hlt := h.step.rel.wf.lt f6
    refine ⟨by rw [hs.old _ hlt]; exact f3, f4, v, ety, vals, f5, ?_, fun d hqd => ?_⟩
    · rw [hs.un _ hlt f3 (fun o ho => ?_) (fun d hd => by rw [f6] at hd; cases hd)]
      · exact f6
      · rw [f6] at ho; cases ho; rfl
    · rw [f7 d hqd, hframe d fun e => ?_]
      have := hp.writer hq hm hqd e
      omega

/-- An effect comes up. -/
theorem Inv.effect (hc : CFok P G callF) (hp : PlanOk P ops l items) (h : Inv P G callF ops items l t0 s0 E0 w0 m ls a w E tm sm tv) {p : Plat} (hm : l[m]? = some p) (hu : ls.getD p.i false = false)
    (he : ∀ e ∈ edgesOf p.o, ls.getD e false = true) (heff : p.kd.isEff = true) {it : Item} (hit : items[m]? = some it) {t' : T} {s' : St} {out : Out} (hr : itemC P G callF ops it tm sm = .mk out t' s')
    (hQ : ∀ x, out = .panic x → ∀ E' a' w' v', Step E0 s0 w0 E' s' w' → TR E' t' a' → VR E' x v' → Q (.panic [{ v := v', recovered := false }]) a' w') :
    wpOp P ops Q p.i (fun a' w' => ∃ E' tv', Inv P G callF ops items l t0 s0 E0 w0 (m + 1) (ls.setIfInBounds p.i true) a' w' E' t' s' tv') a w := by
  obtain ⟨hop, hkd, hdst, hlooks, _⟩ := hp.plat m p hm
  have hanc := edges_anc hp h hm he
  have hag := h.agree hp (Nat.le_refl _) hm hu hanc h.at_
  have hgd := looks_guard hlooks hag
  have hdep : opC P G callF p.o tv sm = opC P G callF p.o tm sm := opC_dep (hp.nosel _ _ hop) (looks_ev hlooks hag)
  obtain ⟨it2, i1, i2, i3⟩ := hp.item m p hm
  rw [hit] at i1; cases i1
  have hrun := itemC_run hr
  have hn := tr_n hp h.at_
  have hok := opC_ok (o := p.o) hc h.step.rel h.glob h.tr
  rw [hdep] at hok
  have hnorm : out = .normal → trC P G callF ops items t0 s0 (m + 1) = some (t', s') := fun e => by
    subst e; simp only [trC, h.at_, hit, hr]
  have slot : ∀ (v : AV) (t1 t2 : T), t1.n = t0.n → t2.n = t0.n → (∀ x, getT (pathOf x) t1 = getT (pathOf x) tv) → (∀ x, getT (pathOf x) t2 = getT (pathOf x) tm) → ∀ x, p.dst = some x →
      getT (pathOf x) (putC p.dst v t1) = getT (pathOf x) (putC p.dst v t2) := fun v t1 t2 n1 n2 e1 e2 x hx => by
    rw [hx]
    show getT (pathOf x) (t1.put x (pathOf x) v) = getT (pathOf x) (t2.put x (pathOf x) v)
    rw [put_get_same, put_get_same, n1, n2]
    by_cases hlt : x < t0.n
    · rw [if_pos hlt, if_pos hlt]
    · rw [if_neg hlt, if_neg hlt, e1, e2, tr_far hp (by omega) h.at_]
      refine h.vis0 x fun k q hq hl hd' => ?_
      have := hp.writer hq hm hd' hx
      subst this
      rw [hm] at hq; cases hq
      rw [hu] at hl; cases hl
  subst i2
  cases hrun with
  | unwanted hg =>
    refine wpOp_unwanted hop (guard_ok h.tr (by rw [hgd]; exact hg)) ?_
    rw [← hdst]
    exact ⟨E, _, h.next hp hm hu he heff hit (hnorm rfl) (.refl h.step.rel) (h.tr.putC _ (vr_undef E)) (by rw [putC_n, h.n]) (by rw [putC_ds, putC_ds, h.ds]) (fun x hx => putC_get_ne hx)
      (slot _ tv tm h.n hn (fun _ => rfl) (fun _ => rfl)) (.inl rfl)⟩
  | plain v s' _ hk' => rw [heff] at hk'; cases hk'
  | val v s' hg _ e hck =>
    rw [e] at hok
    refine wpOp_ok hop (guard_ok h.tr (by rw [hgd]; exact hg)) hok fun v' E' w' hs hv => ?_
    rw [← hdst]
    exact ⟨E', _, h.next hp hm hu he heff hit (hnorm rfl) hs ((h.tr.mono hs.le).putC _ hv) (by rw [putC_n, h.n]) (by rw [putC_ds, putC_ds, h.ds]) (fun x hx => putC_get_ne hx)
      (slot _ tv tm h.n hn (fun _ => rfl) (fun _ => rfl)) (.inr hck)⟩
  | skip s' hg _ e hck =>
    rw [e] at hok
    refine wpOp_ok hop (guard_ok h.tr (by rw [hgd]; exact hg)) hok fun E' w' hs => ?_
    rw [← hdst]
    exact ⟨E', _, h.next hp hm hu he heff hit (hnorm rfl) hs ((h.tr.mono hs.le).putC _ (vr_undef E')) (by rw [putC_n, h.n]) (by rw [putC_ds, putC_ds, h.ds]) (fun x hx => putC_get_ne hx)
      (slot _ tv tm h.n hn (fun _ => rfl) (fun _ => rfl)) (.inr hck)⟩
  | dfr f args s' hg _ e hck =>
    rw [e] at hok
    refine wpOp_ok hop (guard_ok h.tr (by rw [hgd]; exact hg)) hok fun hss d hd' => ?_
    rw [← hdst]
    subst hss
    refine ⟨E, _, h.next hp hm hu he heff hit (hnorm rfl) (.refl h.step.rel) (TR.putC (t := { tv with ds := (f, args) :: tv.ds }) (a := { a with defers := d :: a.defers }) ?_ it.p.dst (vr_undef E))
      (by rw [putC_n]; exact h.n) (by rw [putC_ds, putC_ds]; show _ :: tv.ds = _ :: tm.ds; rw [h.ds]) (fun x hx => putC_get_ne hx)
      (slot _ _ _ h.n hn (fun _ => rfl) (fun _ => rfl)) (.inr hck)⟩
    exact ⟨h.tr.size, h.tr.val, .cons hd' h.tr.ds⟩
  | panic v s' hg _ e =>
    rw [e] at hok
    refine wpOp_ok hop (guard_ok h.tr (by rw [hgd]; exact hg)) hok fun v' E' w' hs hv => ?_
    refine hQ v rfl E' a w' v' (h.step.trans hs) ?_ hv
    refine ⟨by rw [maskT_n, hn, h.tr.size, h.n], fun x => ?_, by rw [maskT_ds, ← h.ds]; exact h.tr.ds.mono hs.le⟩
    rcases maskT_get (x := x) (fl := it.fl) (t := tm) with h1 | ⟨h1, h2⟩
    · rw [h1]; exact .undef _
    · rw [h1]
      have : getT (pathOf x) tm = getT (pathOf x) tv := by
        by_cases hw : ∃ (k : Nat) (q : Plat), l[k]? = some q ∧ ls.getD q.i false = true ∧ q.dst = some x
        · obtain ⟨k, q, hq, hl, hqx⟩ := hw
          exact (h.vis1 k q x hq hl hqx).symm
        · rw [h.vis0 x fun k q hq hl hqx => hw ⟨k, q, hq, hl, hqx⟩]
          by_cases hf : x ∈ it.fl
          · exact tr_far hp (by have := h2 hf; rw [hn] at this; exact this) h.at_
          · refine tr_frame' hp (rfl : trC P G callF ops items t0 s0 0 = some (t0, s0)) h.at_ (Nat.zero_le m) fun j q _ hj hq hqx => ?_
            have hql : ls.getD q.i false = false := by
              cases hx : ls.getD q.i false with
              | false => rfl
              | true => exact absurd ⟨j, q, hq, hx, hqx⟩ hw
            have hqe : q.kd.isEff = false := by
              cases hx : q.kd.isEff with
              | false => rfl
              | true => rw [h.done j q hj hq hx] at hql; cases hql
            have hnb : it.p.bef.testBit q.i = false := by
              cases hb : it.p.bef.testBit q.i with
              | false => rfl
              | true => rw [hanc q.i hb] at hql; cases hql
            exact hf ((i3 heff j q hj hq hqe hnb).2 x hqx)
      rw [this]
      exact VR.mono hs.le (h.tr.val x)

theorem filter_lt {α : Type} {f g : α → Bool} : ∀ {l : List α}, (∀ q ∈ l, g q = true → f q = true) → (∃ q ∈ l, f q = true ∧ g q = false) → (l.filter g).length < (l.filter f).length
  | [], _, h => by obtain ⟨q, hq, _⟩ := h; cases hq
  | x :: l, h1, ⟨q, hq, hf, hg⟩ => by
    have hle : ∀ {l : List α}, (∀ q ∈ l, g q = true → f q = true) → (l.filter g).length ≤ (l.filter f).length := by
      intro l
      induction l with
      | nil => intro _; simp
      | cons y l ih =>
        intro h
        have := ih fun q hq => h q (List.mem_cons_of_mem _ hq)
        have hy := h y (List.mem_cons_self ..)
        cases hgy : g y with
        | true => rw [List.filter_cons_of_pos hgy, List.filter_cons_of_pos (hy hgy)]; simpa using this
        | false =>
          rw [List.filter_cons_of_neg (by simp [hgy])]
          cases hfy : f y with
          | true => rw [List.filter_cons_of_pos hfy]; simp; omega
          | false => rw [List.filter_cons_of_neg (by simp [hfy])]; exact this
    have h2 := fun q hq => h1 q (List.mem_cons_of_mem x hq)
    rcases List.mem_cons.1 hq with rfl | hq
    · rw [List.filter_cons_of_pos hf, List.filter_cons_of_neg (by simp [hg])]
      have := hle h2
      simp; omega
    · have := filter_lt h2 ⟨q, hq, hf, hg⟩
      have hx := h1 x (List.mem_cons_self ..)
      cases hgx : g x with
      | true => rw [List.filter_cons_of_pos hgx, List.filter_cons_of_pos (hx hgx)]; simpa using this
      | false =>
        rw [List.filter_cons_of_neg (by simp [hgx])]
        cases hfx : f x with
        | true => rw [List.filter_cons_of_pos hfx]; simp; omega
        | false => rw [List.filter_cons_of_neg (by simp [hfx])]; exact this

/-- What the plan's order ends in. -/
def Ends (P : Program) (G : Glob) (callF : CF) (ops : Array Oper) (items : List Item) (t0 : T) (s0 : St) (o : Out) (t' : T) (s' : St) : Prop :=
  (o = .normal ∧ trC P G callF ops items t0 s0 items.length = some (t', s')) ∨
    ∃ m t1 s1 it, trC P G callF ops items t0 s0 m = some (t1, s1) ∧ items[m]? = some it ∧ itemC P G callF ops it t1 s1 = .mk o t' s' ∧ o ≠ .normal

theorem tr_lt_len {k : Nat} {x : T × St} (h : trC P G callF ops items t0 s0 k = some x) : k ≤ items.length := by
  cases k with
  | zero => exact Nat.zero_le _
  | succ k =>
    obtain ⟨_, _, it, _, h2, _⟩ := tr_succ (t' := x.1) (s' := x.2) h
    rcases Nat.lt_or_ge k items.length with h1 | h1
    · exact h1
    · rw [List.getElem?_eq_none h1] at h2; cases h2

theorem tr_stop {k j : Nat} {x : T × St} {t1 t' : T} {s1 s' : St} {it : Item} {o : Out} (h1 : trC P G callF ops items t0 s0 k = some (t1, s1)) (h2 : items[k]? = some it)
    (h3 : itemC P G callF ops it t1 s1 = .mk o t' s') (h4 : o ≠ .normal) (h : trC P G callF ops items t0 s0 j = some x) : j ≤ k := by
  rcases Nat.lt_or_ge k j with h5 | h5
  · obtain ⟨t2, s2, e⟩ := tr_le h (show k + 1 ≤ j by omega)
    simp only [trC, h1, h2, h3] at e
    cases o <;> first | exact absurd rfl h4 | cases e
  · exact h5

theorem draw_any (hc : CFok P G callF) (hp : PlanOk P ops l items) {o : Out} {t' : T} {s' : St} (hend : Ends P G callF ops items t0 s0 o t' s')
    (hQ : ∀ e a w E', Step E0 s0 w0 E' s' w → TR E' t' a → OutR E' o e → Q e a w) : ∀ (fuel m : Nat) (ls : Array Bool) (a : Act) (w : World) (E : Env) (tm : T) (sm : St) (tv : T),
    Inv P G callF ops items l t0 s0 E0 w0 m ls a w E tm sm tv → (l.filter fun p => !ls.getD p.i false).length ≤ fuel → wpAny P .any ops Q fuel ls a w := by
  -- all have come up
  have fin : ∀ (m : Nat) (ls : Array Bool) (a : Act) (w : World) (E : Env) (tm : T) (sm : St) (tv : T), Inv P G callF ops items l t0 s0 E0 w0 m ls a w E tm sm tv →
      (∀ (k : Nat) (p : Plat), l[k]? = some p → ls.getD p.i false = true) → Q .normal a w := by
    intro m ls a w E tm sm tv h hall
    have hm1 := tr_lt_len h.at_
    have hm2 : items.length ≤ m := by
      rw [hp.len]
      rcases Nat.lt_or_ge m l.length with h1 | h1
      · obtain ⟨p, hk⟩ := at_of_lt h1
        have := h.lim m p hk (hall m p hk)
        omega
      · exact h1
    have hm : m = items.length := by omega
    rcases hend with ⟨ho, he⟩ | ⟨m2, t1, s1, it, e1, e2, e3, e4⟩
    · rw [← hm, h.at_] at he
      cases he
      refine hQ .normal a w E h.step ⟨?_, fun x => ?_, by rw [← h.ds]; exact h.tr.ds⟩ (by rw [ho]; trivial)
      · rw [h.tr.size, h.n, tr_n hp h.at_]
      · have : getT (pathOf x) t' = getT (pathOf x) tv := by
          by_cases hw : ∃ (k : Nat) (q : Plat), l[k]? = some q ∧ q.dst = some x
          · obtain ⟨k, q, hq, hqx⟩ := hw
            exact (h.vis1 k q x hq (hall k q hq) hqx).symm
          · rw [h.vis0 x fun k q hq _ hqx => hw ⟨k, q, hq, hqx⟩]
            exact tr_frame' hp (rfl : trC P G callF ops items t0 s0 0 = some (t0, s0)) h.at_ (Nat.zero_le m) fun j q _ _ hq hqx => hw ⟨j, q, hq, hqx⟩
        rw [this]; exact h.tr.val x
    · have := tr_stop e1 e2 e3 e4 h.at_
      have : m2 < items.length := by
        rcases Nat.lt_or_ge m2 items.length with h1 | h1
        · exact h1
        · rw [List.getElem?_eq_none h1] at e2; cases e2
      omega
  -- somebody is always ready
  have some_ready : ∀ (m : Nat) (ls : Array Bool) (a : Act) (w : World) (E : Env) (tm : T) (sm : St) (tv : T), Inv P G callF ops items l t0 s0 E0 w0 m ls a w E tm sm tv → Region.ready .any ops ls = [] →
      ∀ (k : Nat) (p : Plat), l[k]? = some p → ls.getD p.i false = true := by
    intro m ls a w E tm sm tv h hr k
    induction k using Nat.strongRecOn with
    | _ k ih =>
      intro p hk
      cases hx : ls.getD p.i false with
      | true => rfl
      | false =>
        obtain ⟨hop, _, _, _, hbef⟩ := hp.plat k p hk
        have : p.i ∈ Region.ready .any ops ls := by
          rw [mem_ready]
          refine ⟨?_, p.o, hop, fun e he hb => ?_⟩
          · have hlt : p.i < ls.size := by rw [h.size]; exact (Array.getElem?_eq_some_iff.1 hop).1
            rw [← hx]; simp [Array.getD, hlt]
          · have hem : e.on ∈ edgesOf p.o := List.mem_map.2 ⟨e, List.mem_filter.2 ⟨by simpa using he, hb⟩, rfl⟩
            have hbit : p.bef.testBit e.on = true := by rw [hbef, befs_bit hop]; exact ⟨_, hem, .inl rfl⟩
            obtain ⟨k', q, hlt, hq, hqi⟩ := hp.ord k p hk e.on hbit
            rw [← hqi]; exact ih k' hlt q hq
        rw [hr] at this; cases this
  intro fuel
  induction fuel with
  | zero =>
    intro m ls a w E tm sm tv h hcnt
    have hall : ∀ (k : Nat) (p : Plat), l[k]? = some p → ls.getD p.i false = true := fun k p hk => by
      cases hx : ls.getD p.i false with
      | true => rfl
      | false =>
        have hm : p ∈ l.filter fun p => !ls.getD p.i false := List.mem_filter.2 ⟨List.mem_of_getElem? hk, by simp only [hx, Bool.not_false]⟩
        rw [List.eq_nil_of_length_eq_zero (Nat.le_zero.1 hcnt)] at hm
        cases hm
    refine ⟨?_, fin m ls a w E tm sm tv h hall⟩
    apply List.eq_nil_iff_forall_not_mem.2
    intro i hi
    obtain ⟨h1, o', h2, _⟩ := mem_ready.1 hi
    have hlt := (Array.getElem?_eq_some_iff.1 h2).1
    obtain ⟨k, p, hk, hpi⟩ := hp.all i hlt
    have h3 := hall k p hk
    rw [hpi] at h3
    have hlt' : i < ls.size := by rw [h.size]; exact hlt
    simp [hlt'] at h1 h3
    rw [h1] at h3; cases h3
  | succ fuel ih =>
    intro m ls a w E tm sm tv h hcnt
    refine ⟨fun hr => fin m ls a w E tm sm tv h (some_ready m ls a w E tm sm tv h hr), fun i hi => ?_⟩
    obtain ⟨h1, o', h2, h3⟩ := mem_ready.1 hi
    have hlt := (Array.getElem?_eq_some_iff.1 h2).1
    obtain ⟨k, p, hk, hpi⟩ := hp.all i hlt
    subst hpi
    have hlt' : p.i < ls.size := by rw [h.size]; exact hlt
    have hu : ls.getD p.i false = false := by rw [← h1]; simp [Array.getD, hlt']
    obtain ⟨hop, _, _, _, _⟩ := hp.plat k p hk
    rw [hop] at h2; cases h2
    have he : ∀ e ∈ edgesOf p.o, ls.getD e false = true := fun e he => by
      obtain ⟨x, hx, hxe⟩ := List.mem_map.1 he
      obtain ⟨hx1, hx2⟩ := List.mem_filter.1 hx
      rw [← hxe]; exact h3 x (by simpa using hx1) hx2
    have hanc := edges_anc hp h hk he
    -- how many have not come up
    have hcnt' : (l.filter fun q => !(ls.setIfInBounds p.i true).getD q.i false).length ≤ fuel := by
      have : (l.filter fun q => !(ls.setIfInBounds p.i true).getD q.i false).length < (l.filter fun q => !ls.getD q.i false).length := by
        refine filter_lt (fun q _ hq => ?_) ⟨p, List.mem_of_getElem? hk, by simp only [hu, Bool.not_false], by rw [set_get hlt', if_pos rfl]; rfl⟩
        rw [set_get hlt'] at hq
        split at hq
        · cases hq
        · exact hq
      omega
    have go : ∀ {m : Nat} {tm : T} {sm : St}, wpOp P ops Q p.i (fun a' w' => ∃ E' tv', Inv P G callF ops items l t0 s0 E0 w0 m (ls.setIfInBounds p.i true) a' w' E' tm sm tv') a w →
        wpOp P ops Q p.i (wpAny P .any ops Q fuel (ls.setIfInBounds p.i true)) a w := fun hh => wpOp_mono (fun a' w' ⟨E', tv', hi⟩ => ih _ _ _ _ _ _ _ _ hi hcnt') hh
    have early : ∀ (j : Nat) (q : Plat), j < k → l[j]? = some q → q.kd.isEff = true → j < m := fun j q hj hq hqe =>
      h.lim j q hq (hanc q.i (hp.chain k p hk j q hj hq hqe))
    rcases Nat.lt_or_ge k m with hkm | hkm
    · exact go (h.pend hc hp hkm hk hu he)
    · -- how far the plan's order goes
      have hkl : k < items.length := by
        rw [hp.len]
        rcases Nat.lt_or_ge k l.length with h5 | h5
        · exact h5
        · rw [List.getElem?_eq_none h5] at hk; cases hk
      have hstop : ∀ (m2 : Nat) (t1 : T) (s1 : St) (it : Item), trC P G callF ops items t0 s0 m2 = some (t1, s1) → items[m2]? = some it → itemC P G callF ops it t1 s1 = .mk o t' s' → o ≠ .normal → k ≤ m2 ∧ it.p.kd.isEff = true ∧ ∃ q, l[m2]? = some q ∧ it.p = q := by
        intro m2 t1 s1 it e1 e2 e3 e4
        have hm2 : m2 < items.length := by
          rcases Nat.lt_or_ge m2 items.length with h5 | h5
          · exact h5
          · rw [List.getElem?_eq_none h5] at e2; cases e2
        obtain ⟨q, hq⟩ := at_of_lt (l := l) (k := m2) (by rw [← hp.len]; exact hm2)
        obtain ⟨it2, f1, f2, _⟩ := hp.item m2 q hq
        rw [e2] at f1; cases f1
        have heff : it.p.kd.isEff = true := by
          have := itemC_run e3
          cases this with
          | panic v s' _ hk' => exact hk'
          | _ => exact absurd rfl e4
        refine ⟨?_, heff, q, hq, f2⟩
        rcases Nat.lt_or_ge m2 k with h5 | h5
        · have := early m2 q h5 hq (by rw [← f2]; exact heff)
          have := tr_stop e1 e2 e3 e4 h.at_
          omega
        · exact h5
      have htk : ∃ tk sk, trC P G callF ops items t0 s0 k = some (tk, sk) := by
        rcases hend with ⟨_, he'⟩ | ⟨m2, t1, s1, it, e1, e2, e3, e4⟩
        · exact tr_le he' (Nat.le_of_lt hkl)
        · exact tr_le e1 (hstop m2 t1 s1 it e1 e2 e3 e4).1
      obtain ⟨tk, sk, htk⟩ := htk
      obtain ⟨n, rfl⟩ := Nat.exists_eq_add_of_le hkm
      have hk1 := Inv.advTo hp n h (fun j q hj hj2 hq => by
        cases hx : q.kd.isEff with
        | false => rfl
        | true => have := early j q hj2 hq hx; omega) htk
      cases heff : p.kd.isEff with
      | true =>
        obtain ⟨it, i1, i2, _⟩ := hp.item _ p hk
        rcases hend with ⟨ho, he'⟩ | ⟨m2, t1, s1, it2, e1, e2, e3, e4⟩
        · obtain ⟨t1, s1, htr⟩ := tr_le he' (show m + n + 1 ≤ items.length by omega)
          obtain ⟨t2, s2, it2, e1, e2, e3⟩ := tr_succ htr
          rw [htk] at e1; cases e1
          exact go (hk1.effect hc hp hk hu he heff e2 e3 fun x hx => by cases hx)
        · obtain ⟨hle, _, _⟩ := hstop m2 t1 s1 it2 e1 e2 e3 e4
          rcases Nat.lt_or_ge (m + n) m2 with h5 | h5
          · obtain ⟨t3, s3, htr⟩ := tr_le e1 (show m + n + 1 ≤ m2 by omega)
            obtain ⟨t2, s2, it3, f1, f2, f3⟩ := tr_succ htr
            rw [htk] at f1; cases f1
            exact go (hk1.effect hc hp hk hu he heff f2 f3 fun x hx => by cases hx)
          · have : m2 = m + n := by omega
            subst this
            rw [htk] at e1; cases e1
            exact go (hk1.effect hc hp hk hu he heff e2 e3 fun x hx E' a' w' v' hs ht hv => hQ _ a' w' E' hs ht (by rw [hx]; exact ⟨v', rfl, hv⟩))
      | false =>
        have hnext : ∃ t1 s1, trC P G callF ops items t0 s0 (m + n + 1) = some (t1, s1) := by
          rcases hend with ⟨_, he'⟩ | ⟨m2, t1, s1, it2, e1, e2, e3, e4⟩
          · exact tr_le he' (by omega)
          · obtain ⟨hle, hx, q, hq, hqe⟩ := hstop m2 t1 s1 it2 e1 e2 e3 e4
            refine tr_le e1 ?_
            rcases Nat.lt_or_ge (m + n) m2 with h5 | h5
            · exact h5
            · have : m2 = m + n := by omega
              subst this
              rw [hk] at hq; cases hq
              rw [hqe, heff] at hx; cases hx
        obtain ⟨t1, s1, htr⟩ := hnext
        have hk2 := hk1.advance hp hk heff htr
        exact go (hk2.pend hc hp (Nat.lt_succ_self _) hk hu he)

/-- A region that draws its order. -/
theorem draw_ok (hm : P.follows .mixedOrders = true) (hc : CFok P G callF) {id : Nat} {t t' : T} {s s' : St} {o : Out} {a : Act} {w : World} {E : Env} (h : Rel E s w) (hG : GlobOk E G) (ht : TR E t a)
    (hr : regionC P G callF ops true t s = .mk o t' s') (hQ : ∀ e a' w' E', Step E s w E' s' w' → TR E' t' a' → OutR E' o e → Q e a' w') : (Code.region id ops true).wp P Q a w := by
  unfold regionC at hr
  simp only [cond_true] at hr
  cases hpl : planOf P ops with
  | none => rw [hpl] at hr; cases hr
  | some items =>
    simp only [hpl] at hr
    obtain ⟨l, hp⟩ := planOf_ok hpl
    have hs := Step.drew h
    have hend : Ends P G callF ops items t s o t' s' := items_end items 0 rfl (by simp) rfl hr
    refine wp_region_any hm (draw_any hc hp (E0 := E) (w0 := { w with drawn := w.drawn + 1 }) hend (fun e a' w' E' hs' ht' ho => hQ e a' w' E' (hs.trans hs') ht' ho) ops.size 0 _ a _ E t s t ?_ ?_)
    · refine ⟨by simp, rfl, fun k p hk => absurd hk (Nat.not_lt_zero k), fun k p hk hl => ?_, fun i o' hi => ?_, .refl hs.rel, hG, ht, rfl, rfl, fun k p x hk hl => ?_, fun _ _ => rfl, ?_, fun k p _ _ hk => absurd hk (Nat.not_lt_zero k), fun k p _ _ hk => absurd hk (Nat.not_lt_zero k)⟩
      · simp [Array.getElem?_replicate] at hl
        split at hl <;> simp at hl
      · simp [Array.getElem?_replicate] at hi
        split at hi <;> simp at hi
      · simp [Array.getElem?_replicate] at hl
        split at hl <;> simp at hl
      · intro k k' tk tk' sk sk' hle hle' e1 e2
        have h1 : k' = 0 := by omega
        have h2 : k = 0 := by omega
        subst h1 h2
        rw [e1] at e2; cases e2; exact Nat.le_refl _
    · rw [← hp.size]; exact List.length_filter_le ..

theorem region_ok (hm : P.follows .mixedOrders = true) (hc : CFok P G callF) {id : Nat} {draw : Bool} {t t' : T} {s s' : St} {o : Out} {a : Act} {w : World} {E : Env} (h : Rel E s w) (hG : GlobOk E G) (ht : TR E t a)
    (hr : regionC P G callF ops draw t s = .mk o t' s') (hQ : ∀ e a' w' E', Step E s w E' s' w' → TR E' t' a' → OutR E' o e → Q e a' w') : (Code.region id ops draw).wp P Q a w := by
  cases draw with
  | true => exact draw_ok hm hc h hG ht hr hQ
  | false =>
    refine wp_region ?_
    unfold regionC plainItems at hr
    simp only [cond_false] at hr
    have := plain_ok (Q := Q) hc ops.toList 0 rfl h hG ht hr hQ
    simpa [List.range_eq_range'] using this
end
end Go.Am
