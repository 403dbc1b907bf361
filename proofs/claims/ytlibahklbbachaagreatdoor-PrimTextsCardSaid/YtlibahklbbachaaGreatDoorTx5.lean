import Derived.Test.YtlibahklbbachaaGreatDoorTx4
import Derived.Recover
import Derived.LoopN
import Derived.Laws.Sem
import Derived.Lib.Builder
set_option autoImplicit false
set_option maxRecDepth 100000
set_option linter.unusedSimpArgs false
set_option linter.unusedVariables false
section
namespace Go.Am
section
variable {P : Program} {G : Glob} {callF : CF} {ops : Array Oper} {Q : Exit → Act → World → Prop} {items : List Item} {l : List Plat} {t0 : T} {s0 : St}
variable {E0 E : Env} {w0 w : World} {m : Nat} {ls : Array Bool} {a : Act} {tm tv : T} {sm : St}
theorem againsC_mem {o : Oper} {t : T} {s : St} : ∀ {chk : List Oper}, againsC P G callF ops chk t s = true → o ∈ chk → againC P G callF ops o t s = true
  | [], _, h => by cases h
  | q :: l, hc, h => by
    simp only [againsC, Bool.and_eq_true] at hc
    rcases List.mem_cons.1 h with rfl | h
    · exact hc.1
    · exact againsC_mem hc.2 h
theorem againC_val {o : Oper} {t : T} {s : St} (h : againC P G callF ops o t s = true) (hg : guardC ops o.guard t = some true) :
    ∃ v s', opC P G callF o t s = .val v s' ∧ ∀ d, o.dst = some d → v = getT (pathOf d) t := by
  unfold againC at h
  cases hd : o.dst with
  | none =>
    simp only [hd, hg, cond_true] at h
    split at h
    · rename_i v s' e; exact ⟨v, s', e, fun d hd => by cases hd⟩
    · cases h
  | some d =>
    simp only [hd, hg, cond_true] at h
    split at h
    · rename_i v s' e
      exact ⟨v, s', e, fun d' hd' => by cases hd'; exact AV.same_eq h⟩
    · cases h
theorem Inv.next (hp : PlanOk P ops l items) (h : Inv P G callF ops items l t0 s0 E0 w0 m ls a w E tm sm tv) {p : Plat} (hm : l[m]? = some p) (hu : ls.getD p.i false = false)
    (he : ∀ e ∈ edgesOf p.o, ls.getD e false = true) (heff : p.kd.isEff = true) {it : Item} (hit : items[m]? = some it) {t' : T} {s' : St} (htr : trC P G callF ops items t0 s0 (m + 1) = some (t', s'))
    {E' : Env} {a' : Act} {w' : World} {tv' : T} (hs : Step E sm w E' s' w') (ht : TR E' tv' a') (hn : tv'.n = t0.n) (hds : tv'.ds = t'.ds)
    (hne : ∀ x, p.dst ≠ some x → getT (pathOf x) tv' = getT (pathOf x) tv) (hd : ∀ x, p.dst = some x → getT (pathOf x) tv' = getT (pathOf x) t')
    (hck : s' = sm ∨ againsC P G callF ops it.chk t' s' = true) :
    Inv P G callF ops items l t0 s0 E0 w0 (m + 1) (ls.setIfInBounds p.i true) a' w' E' t' s' tv' := by
  have hpi : p.i < ls.size := by
    have := (hp.plat m p hm).1
    rw [h.size]
    exact (Array.getElem?_eq_some_iff.1 this).1
  have hls : ∀ j, ls.getD j false = true → (ls.setIfInBounds p.i true).getD j false = true := fun j hj => by rw [set_get hpi]; split <;> first | rfl | exact hj
  have hun : ∀ (k' : Nat) (q : Plat), l[k']? = some q → (ls.setIfInBounds p.i true).getD q.i false = false → ls.getD q.i false = false ∧ k' ≠ m := fun k' q hq hl => by
    rw [set_get hpi] at hl
    split at hl
    · cases hl
    · rename_i hne
      refine ⟨hl, fun e => ?_⟩
      subst e; rw [hm] at hq; cases hq; exact hne rfl
  have hin : ∀ (k' : Nat) (q : Plat), l[k']? = some q → (ls.setIfInBounds p.i true).getD q.i false = true → k' = m ∨ ls.getD q.i false = true := fun k' q hq hl => by
    rw [set_get hpi] at hl
    split at hl
    · rename_i e; exact .inl (hp.uniq k' m q p hq hm e.symm)
    · exact .inr hl
  obtain ⟨t1, s1, it1, g1, g2, g3, g4⟩ := tr_item hp hm htr
  rw [h.at_] at g1; cases g1
  have hframe : ∀ x, p.dst ≠ some x → getT (pathOf x) t' = getT (pathOf x) tm := fun x hx => (g4.frame rfl).2 x (.inl (by rw [g3]; exact hx))
  have hanc := edges_anc hp h hm he
  refine ⟨by simp [h.size], htr, ?_, ?_, ?_, h.step.trans hs, h.glob.step h.step.rel hs, ht, hn, hds, ?_, ?_, ?_, ?_, ?_⟩
  · intro k q hk hq hqe
    rcases Nat.lt_or_ge k m with h5 | h5
    · exact hls _ (h.done k q h5 hq hqe)
    · have : k = m := by omega
      subst this; rw [hm] at hq; cases hq
      rw [set_get hpi, if_pos rfl]
  · intro k q hq hl
    rcases hin k q hq hl with h5 | h5
    · omega
    · exact Nat.lt_succ_of_lt (h.lim k q hq h5)
  · intro i o hi ho e hem
    rw [set_get hpi] at hi
    split at hi
    · rename_i e1
      subst e1
      rw [(hp.plat m p hm).1] at ho
      cases ho
      exact hls _ (he e hem)
    · exact hls _ (h.cl i o hi ho e hem)
  · intro k q x hq hl hqx
    rcases hin k q hq hl with h5 | h5
    · subst h5; rw [hm] at hq; cases hq; exact hd x hqx
    · have hx : p.dst ≠ some x := fun e => by
        have := hp.writer hq hm hqx e
        subst this
        rw [hm] at hq; cases hq
        rw [hu] at h5; cases h5
      rw [hne x hx, hframe x hx]
      exact h.vis1 k q x hq h5 hqx
  · intro x hx
    rw [hne x (hx m p hm (by rw [set_get hpi, if_pos rfl]))]
    exact h.vis0 x fun k q hq hl => hx k q hq (hls _ hl)
  · intro k k' tk tk' sk sk' hle hle' e1 e2
    rcases Nat.lt_or_ge k' (m + 1) with h5 | h5
    · exact h.mono k k' tk tk' sk sk' hle (by omega) e1 e2
    · have : k' = m + 1 := by omega
      subst this
      rw [htr] at e2; cases e2
      rcases Nat.lt_or_ge k (m + 1) with h6 | h6
      · exact Nat.le_trans (h.mono k m tk tm sk sm (by omega) (Nat.le_refl _) e1 h.at_) hs.next
      · have : k = m + 1 := by omega
        subst this; rw [htr] at e1; cases e1; exact Nat.le_refl _
  · intro k q tk sk hk hq hl hkd e1 hg
    obtain ⟨f1, f2⟩ := hun k q hq hl
    have hkm : k < m := by omega
    obtain ⟨v, f3, f4⟩ := h.pval k q tk sk hkm hq f1 hkd e1 hg
    have hdst : ∀ d, q.dst = some d → getT (pathOf d) t' = getT (pathOf d) tm := fun d hqd => hframe d fun e => by
      have := hp.writer hq hm hqd e
      omega
    rcases hck with hck | hck
    · subst hck
      exact ⟨v, f3, fun d hqd => by rw [f4 d hqd, hdst d hqd]⟩
    · obtain ⟨hop, hqk, hqd', hql, _⟩ := hp.plat k q hq
      rcases hkd with hkd | hkd
      · obtain ⟨_, f5⟩ := (opC_free (P := P) (G := G) (callF := callF) (o := q.o) (by rw [← hqk]; exact hkd)).val f3
        exact ⟨v, f5 s', fun d hqd => by rw [f4 d hqd, hdst d hqd]⟩
      · have hnb : p.bef.testBit q.i = false := by
          cases hb : p.bef.testBit q.i with
          | false => rfl
          | true => rw [hanc q.i hb] at f1; cases f1
        obtain ⟨it2, i1, i2, i3⟩ := hp.item m p hm
        rw [hit] at i1; cases i1
        obtain ⟨i4, _⟩ := i3 heff k q hkm hq (by rw [hkd]; rfl) hnb
        obtain ⟨i5, i6⟩ := i4 (by rw [hkd]; rfl)
        have hag : ∀ x ∈ q.looks, getT (pathOf x) t' = getT (pathOf x) tk := fun x hx =>
          tr_frame' hp e1 htr (by omega) fun j r hj hj2 hr hrx => by
            have := i5 j r x (by omega) hr hrx hx
            obtain ⟨j', r', j1, j2, j3⟩ := hp.ord k q hq r.i this
            have := hp.uniq j' j r' r j2 hr j3
            omega
        obtain ⟨v', s2, a1, a2⟩ := againC_val (againsC_mem hck i6) (by rw [looks_guard hql hag]; exact hg)
        rw [opC_dep (hp.nosel _ _ hop) (looks_ev hql hag)] at a1
        have a3 := (kept hqk (.inr hkd) a1).1
        rw [a3] at a1
        refine ⟨v', a1, fun d hqd => ?_⟩
        have f6 := f4 d hqd
        rw [put_get_same] at f6 ⊢
        by_cases hlt : d < tk.n
        · rw [if_pos hlt]; exact a2 d (by rw [← hqd']; exact hqd)
        · rw [if_neg hlt] at f6 ⊢; rw [f6, hdst d hqd]
  · intro k q tk sk hk hq hl hkd e1 hg
    obtain ⟨f1, f2⟩ := hun k q hq hl
    have hkm : k < m := by omega
    obtain ⟨f3, f4, v, ety, vals, f5, f6, f7⟩ := h.pnew k q tk sk hkm hq f1 hkd e1 hg
    have hlt := h.step.rel.wf.lt f6
    refine ⟨by rw [hs.old _ hlt]; exact f3, f4, v, ety, vals, f5, ?_, fun d hqd => ?_⟩
    · rw [hs.un _ hlt f3 (fun o ho => ?_) (fun d hd => by rw [f6] at hd; cases hd)]
      · exact f6
      · rw [f6] at ho; cases ho; rfl
    · rw [f7 d hqd, hframe d fun e => ?_]
      have := hp.writer hq hm hqd e
      omega
theorem Inv.effect (hc : CFok P G callF) (hp : PlanOk P ops l items) (h : Inv P G callF ops items l t0 s0 E0 w0 m ls a w E tm sm tv) {p : Plat} (hm : l[m]? = some p) (hu : ls.getD p.i false = false)
    (he : ∀ e ∈ edgesOf p.o, ls.getD e false = true) (heff : p.kd.isEff = true) {it : Item} (hit : items[m]? = some it) {t' : T} {s' : St} {out : Out} (hr : itemC P G callF ops it tm sm = .mk out t' s')
    (hQ : ∀ x, out = .panic x → ∀ E' a' w' v', Step E0 s0 w0 E' s' w' → TR E' t' a' → VR E' x v' → Q (.panic [{ v := v', recovered := false }]) a' w') :
    wpOp P ops Q p.i (fun a' w' => ∃ E' tv', Inv P G callF ops items l t0 s0 E0 w0 (m + 1) (ls.setIfInBounds p.i true) a' w' E' t' s' tv') a w := by
  obtain ⟨hop, hkd, hdst, hlooks, _⟩ := hp.plat m p hm
  have hanc := edges_anc hp h hm he
  have hag := h.agree hp (Nat.le_refl _) hm hu hanc h.at_
  have hgd := looks_guard hlooks hag
  have hdep : opC P G callF p.o tv sm = opC P G callF p.o tm sm := opC_dep (hp.nosel _ _ hop) (looks_ev hlooks hag)
  obtain ⟨it2, i1, i2, i3⟩ := hp.item m p hm
  rw [hit] at i1; cases i1
  have hrun := itemC_run hr
  have hn := tr_n hp h.at_
  have hok := opC_ok (o := p.o) hc h.step.rel h.glob h.tr
  rw [hdep] at hok
  have hnorm : out = .normal → trC P G callF ops items t0 s0 (m + 1) = some (t', s') := fun e => by
    subst e; simp only [trC, h.at_, hit, hr]
  have slot : ∀ (v : AV) (t1 t2 : T), t1.n = t0.n → t2.n = t0.n → (∀ x, getT (pathOf x) t1 = getT (pathOf x) tv) → (∀ x, getT (pathOf x) t2 = getT (pathOf x) tm) → ∀ x, p.dst = some x →
      getT (pathOf x) (putC p.dst v t1) = getT (pathOf x) (putC p.dst v t2) := fun v t1 t2 n1 n2 e1 e2 x hx => by
    rw [hx]
    show getT (pathOf x) (t1.put x (pathOf x) v) = getT (pathOf x) (t2.put x (pathOf x) v)
    rw [put_get_same, put_get_same, n1, n2]
    by_cases hlt : x < t0.n
    · rw [if_pos hlt, if_pos hlt]
    · rw [if_neg hlt, if_neg hlt, e1, e2, tr_far hp (by omega) h.at_]
      refine h.vis0 x fun k q hq hl hd' => ?_
      have := hp.writer hq hm hd' hx
      subst this
      rw [hm] at hq; cases hq
      rw [hu] at hl; cases hl
  subst i2
  cases hrun with
  | unwanted hg =>
    refine wpOp_unwanted hop (guard_ok h.tr (by rw [hgd]; exact hg)) ?_
    rw [← hdst]
    exact ⟨E, _, h.next hp hm hu he heff hit (hnorm rfl) (.refl h.step.rel) (h.tr.putC _ (vr_undef E)) (by rw [putC_n, h.n]) (by rw [putC_ds, putC_ds, h.ds]) (fun x hx => putC_get_ne hx)
      (slot _ tv tm h.n hn (fun _ => rfl) (fun _ => rfl)) (.inl rfl)⟩
  | plain v s' _ hk' => rw [heff] at hk'; cases hk'
  | val v s' hg _ e hck =>
    rw [e] at hok
    refine wpOp_ok hop (guard_ok h.tr (by rw [hgd]; exact hg)) hok fun v' E' w' hs hv => ?_
    rw [← hdst]
    exact ⟨E', _, h.next hp hm hu he heff hit (hnorm rfl) hs ((h.tr.mono hs.le).putC _ hv) (by rw [putC_n, h.n]) (by rw [putC_ds, putC_ds, h.ds]) (fun x hx => putC_get_ne hx)
      (slot _ tv tm h.n hn (fun _ => rfl) (fun _ => rfl)) (.inr hck)⟩
  | skip s' hg _ e hck =>
    rw [e] at hok
    refine wpOp_ok hop (guard_ok h.tr (by rw [hgd]; exact hg)) hok fun E' w' hs => ?_
    rw [← hdst]
    exact ⟨E', _, h.next hp hm hu he heff hit (hnorm rfl) hs ((h.tr.mono hs.le).putC _ (vr_undef E')) (by rw [putC_n, h.n]) (by rw [putC_ds, putC_ds, h.ds]) (fun x hx => putC_get_ne hx)
      (slot _ tv tm h.n hn (fun _ => rfl) (fun _ => rfl)) (.inr hck)⟩
  | dfr f args s' hg _ e hck =>
    rw [e] at hok
    refine wpOp_ok hop (guard_ok h.tr (by rw [hgd]; exact hg)) hok fun hss d hd' => ?_
    rw [← hdst]
    subst hss
    refine ⟨E, _, h.next hp hm hu he heff hit (hnorm rfl) (.refl h.step.rel) (TR.putC (t := { tv with ds := (f, args) :: tv.ds }) (a := { a with defers := d :: a.defers }) ?_ it.p.dst (vr_undef E))
      (by rw [putC_n]; exact h.n) (by rw [putC_ds, putC_ds]; show _ :: tv.ds = _ :: tm.ds; rw [h.ds]) (fun x hx => putC_get_ne hx)
      (slot _ _ _ h.n hn (fun _ => rfl) (fun _ => rfl)) (.inr hck)⟩
    exact ⟨h.tr.size, h.tr.val, .cons hd' h.tr.ds⟩
  | panic v s' hg _ e =>
    rw [e] at hok
    refine wpOp_ok hop (guard_ok h.tr (by rw [hgd]; exact hg)) hok fun v' E' w' hs hv => ?_
    refine hQ v rfl E' a w' v' (h.step.trans hs) ?_ hv
    refine ⟨by rw [maskT_n, hn, h.tr.size, h.n], fun x => ?_, by rw [maskT_ds, ← h.ds]; exact h.tr.ds.mono hs.le⟩
    rcases maskT_get (x := x) (fl := it.fl) (t := tm) with h1 | ⟨h1, h2⟩
    · rw [h1]; exact .undef _
    · rw [h1]
      have : getT (pathOf x) tm = getT (pathOf x) tv := by
        by_cases hw : ∃ (k : Nat) (q : Plat), l[k]? = some q ∧ ls.getD q.i false = true ∧ q.dst = some x
        · obtain ⟨k, q, hq, hl, hqx⟩ := hw
          exact (h.vis1 k q x hq hl hqx).symm
        · rw [h.vis0 x fun k q hq hl hqx => hw ⟨k, q, hq, hl, hqx⟩]
          by_cases hf : x ∈ it.fl
          · exact tr_far hp (by have := h2 hf; rw [hn] at this; exact this) h.at_
          · refine tr_frame' hp (rfl : trC P G callF ops items t0 s0 0 = some (t0, s0)) h.at_ (Nat.zero_le m) fun j q _ hj hq hqx => ?_
            have hql : ls.getD q.i false = false := by
              cases hx : ls.getD q.i false with
              | false => rfl
              | true => exact absurd ⟨j, q, hq, hx, hqx⟩ hw
            have hqe : q.kd.isEff = false := by
              cases hx : q.kd.isEff with
              | false => rfl
              | true => rw [h.done j q hj hq hx] at hql; cases hql
            have hnb : it.p.bef.testBit q.i = false := by
              cases hb : it.p.bef.testBit q.i with
              | false => rfl
              | true => rw [hanc q.i hb] at hql; cases hql
            exact hf ((i3 heff j q hj hq hqe hnb).2 x hqx)
      rw [this]
      exact VR.mono hs.le (h.tr.val x)
theorem filter_lt {α : Type} {f g : α → Bool} : ∀ {l : List α}, (∀ q ∈ l, g q = true → f q = true) → (∃ q ∈ l, f q = true ∧ g q = false) → (l.filter g).length < (l.filter f).length
  | [], _, h => by obtain ⟨q, hq, _⟩ := h; cases hq
  | x :: l, h1, ⟨q, hq, hf, hg⟩ => by
    have hle : ∀ {l : List α}, (∀ q ∈ l, g q = true → f q = true) → (l.filter g).length ≤ (l.filter f).length := by
      intro l
      induction l with
      | nil => intro _; simp
      | cons y l ih =>
        intro h
        have := ih fun q hq => h q (List.mem_cons_of_mem _ hq)
        have hy := h y (List.mem_cons_self ..)
        cases hgy : g y with
        | true => rw [List.filter_cons_of_pos hgy, List.filter_cons_of_pos (hy hgy)]; simpa using this
        | false =>
          rw [List.filter_cons_of_neg (by simp [hgy])]
          cases hfy : f y with
          | true => rw [List.filter_cons_of_pos hfy]; simp; omega
          | false => rw [List.filter_cons_of_neg (by simp [hfy])]; exact this
    have h2 := fun q hq => h1 q (List.mem_cons_of_mem x hq)
    rcases List.mem_cons.1 hq with rfl | hq
    · rw [List.filter_cons_of_pos hf, List.filter_cons_of_neg (by simp [hg])]
      have := hle h2
      simp; omega
    · have := filter_lt h2 ⟨q, hq, hf, hg⟩
      have hx := h1 x (List.mem_cons_self ..)
      cases hgx : g x with
      | true => rw [List.filter_cons_of_pos hgx, List.filter_cons_of_pos (hx hgx)]; simpa using this
      | false =>
        rw [List.filter_cons_of_neg (by simp [hgx])]
        cases hfx : f x with
        | true => rw [List.filter_cons_of_pos hfx]; simp; omega
        | false => rw [List.filter_cons_of_neg (by simp [hfx])]; exact this
def Ends (P : Program) (G : Glob) (callF : CF) (ops : Array Oper) (items : List Item) (t0 : T) (s0 : St) (o : Out) (t' : T) (s' : St) : Prop :=
  (o = .normal ∧ trC P G callF ops items t0 s0 items.length = some (t', s')) ∨
    ∃ m t1 s1 it, trC P G callF ops items t0 s0 m = some (t1, s1) ∧ items[m]? = some it ∧ itemC P G callF ops it t1 s1 = .mk o t' s' ∧ o ≠ .normal
theorem tr_lt_len {k : Nat} {x : T × St} (h : trC P G callF ops items t0 s0 k = some x) : k ≤ items.length := by
  cases k with
  | zero => exact Nat.zero_le _
  | succ k =>
    obtain ⟨_, _, it, _, h2, _⟩ := tr_succ (t' := x.1) (s' := x.2) h
    rcases Nat.lt_or_ge k items.length with h1 | h1
    · exact h1
    · rw [List.getElem?_eq_none h1] at h2; cases h2
theorem tr_stop {k j : Nat} {x : T × St} {t1 t' : T} {s1 s' : St} {it : Item} {o : Out} (h1 : trC P G callF ops items t0 s0 k = some (t1, s1)) (h2 : items[k]? = some it)
    (h3 : itemC P G callF ops it t1 s1 = .mk o t' s') (h4 : o ≠ .normal) (h : trC P G callF ops items t0 s0 j = some x) : j ≤ k := by
  rcases Nat.lt_or_ge k j with h5 | h5
  · obtain ⟨t2, s2, e⟩ := tr_le h (show k + 1 ≤ j by omega)
    simp only [trC, h1, h2, h3] at e
    cases o <;> first | exact absurd rfl h4 | cases e
  · exact h5
theorem draw_any (hc : CFok P G callF) (hp : PlanOk P ops l items) {o : Out} {t' : T} {s' : St} (hend : Ends P G callF ops items t0 s0 o t' s')
    (hQ : ∀ e a w E', Step E0 s0 w0 E' s' w → TR E' t' a → OutR E' o e → Q e a w) : ∀ (fuel m : Nat) (ls : Array Bool) (a : Act) (w : World) (E : Env) (tm : T) (sm : St) (tv : T),
    Inv P G callF ops items l t0 s0 E0 w0 m ls a w E tm sm tv → (l.filter fun p => !ls.getD p.i false).length ≤ fuel → wpAny P .any ops Q fuel ls a w := by
  -- all have come up
  have fin : ∀ (m : Nat) (ls : Array Bool) (a : Act) (w : World) (E : Env) (tm : T) (sm : St) (tv : T), Inv P G callF ops items l t0 s0 E0 w0 m ls a w E tm sm tv →
      (∀ (k : Nat) (p : Plat), l[k]? = some p → ls.getD p.i false = true) → Q .normal a w := by
    intro m ls a w E tm sm tv h hall
    have hm1 := tr_lt_len h.at_
    have hm2 : items.length ≤ m := by
      rw [hp.len]
      rcases Nat.lt_or_ge m l.length with h1 | h1
      · obtain ⟨p, hk⟩ := at_of_lt h1
        have := h.lim m p hk (hall m p hk)
        omega
      · exact h1
    have hm : m = items.length := by omega
    rcases hend with ⟨ho, he⟩ | ⟨m2, t1, s1, it, e1, e2, e3, e4⟩
    · rw [← hm, h.at_] at he
      cases he
      refine hQ .normal a w E h.step ⟨?_, fun x => ?_, by rw [← h.ds]; exact h.tr.ds⟩ (by rw [ho]; trivial)
      · rw [h.tr.size, h.n, tr_n hp h.at_]
      · have : getT (pathOf x) t' = getT (pathOf x) tv := by
          by_cases hw : ∃ (k : Nat) (q : Plat), l[k]? = some q ∧ q.dst = some x
          · obtain ⟨k, q, hq, hqx⟩ := hw
            exact (h.vis1 k q x hq (hall k q hq) hqx).symm
          · rw [h.vis0 x fun k q hq _ hqx => hw ⟨k, q, hq, hqx⟩]
            exact tr_frame' hp (rfl : trC P G callF ops items t0 s0 0 = some (t0, s0)) h.at_ (Nat.zero_le m) fun j q _ _ hq hqx => hw ⟨j, q, hq, hqx⟩
        rw [this]; exact h.tr.val x
    · have := tr_stop e1 e2 e3 e4 h.at_
      have : m2 < items.length := by
        rcases Nat.lt_or_ge m2 items.length with h1 | h1
        · exact h1
        · rw [List.getElem?_eq_none h1] at e2; cases e2
      omega
  -- somebody is always ready
  have some_ready : ∀ (m : Nat) (ls : Array Bool) (a : Act) (w : World) (E : Env) (tm : T) (sm : St) (tv : T), Inv P G callF ops items l t0 s0 E0 w0 m ls a w E tm sm tv → Region.ready .any ops ls = [] →
      ∀ (k : Nat) (p : Plat), l[k]? = some p → ls.getD p.i false = true := by
    intro m ls a w E tm sm tv h hr k
    induction k using Nat.strongRecOn with
    | _ k ih =>
      intro p hk
      cases hx : ls.getD p.i false with
      | true => rfl
      | false =>
        obtain ⟨hop, _, _, _, hbef⟩ := hp.plat k p hk
        have : p.i ∈ Region.ready .any ops ls := by
          rw [mem_ready]
          refine ⟨?_, p.o, hop, fun e he hb => ?_⟩
          · have hlt : p.i < ls.size := by rw [h.size]; exact (Array.getElem?_eq_some_iff.1 hop).1
            rw [← hx]; simp [Array.getD, hlt]
          · have hem : e.on ∈ edgesOf p.o := List.mem_map.2 ⟨e, List.mem_filter.2 ⟨by simpa using he, hb⟩, rfl⟩
            have hbit : p.bef.testBit e.on = true := by rw [hbef, befs_bit hop]; exact ⟨_, hem, .inl rfl⟩
            obtain ⟨k', q, hlt, hq, hqi⟩ := hp.ord k p hk e.on hbit
            rw [← hqi]; exact ih k' hlt q hq
        rw [hr] at this; cases this
  intro fuel
  induction fuel with
  | zero =>
    intro m ls a w E tm sm tv h hcnt
    have hall : ∀ (k : Nat) (p : Plat), l[k]? = some p → ls.getD p.i false = true := fun k p hk => by
      cases hx : ls.getD p.i false with
      | true => rfl
      | false =>
        have hm : p ∈ l.filter fun p => !ls.getD p.i false := List.mem_filter.2 ⟨List.mem_of_getElem? hk, by simp only [hx, Bool.not_false]⟩
        rw [List.eq_nil_of_length_eq_zero (Nat.le_zero.1 hcnt)] at hm
        cases hm
    refine ⟨?_, fin m ls a w E tm sm tv h hall⟩
    apply List.eq_nil_iff_forall_not_mem.2
    intro i hi
    obtain ⟨h1, o', h2, _⟩ := mem_ready.1 hi
    have hlt := (Array.getElem?_eq_some_iff.1 h2).1
    obtain ⟨k, p, hk, hpi⟩ := hp.all i hlt
    have h3 := hall k p hk
    rw [hpi] at h3
    have hlt' : i < ls.size := by rw [h.size]; exact hlt
    simp [hlt'] at h1 h3
    rw [h1] at h3; cases h3
  | succ fuel ih =>
    intro m ls a w E tm sm tv h hcnt
    refine ⟨fun hr => fin m ls a w E tm sm tv h (some_ready m ls a w E tm sm tv h hr), fun i hi => ?_⟩
    obtain ⟨h1, o', h2, h3⟩ := mem_ready.1 hi
    have hlt := (Array.getElem?_eq_some_iff.1 h2).1
    obtain ⟨k, p, hk, hpi⟩ := hp.all i hlt
    subst hpi
    have hlt' : p.i < ls.size := by rw [h.size]; exact hlt
    have hu : ls.getD p.i false = false := by rw [← h1]; simp [Array.getD, hlt']
    obtain ⟨hop, _, _, _, _⟩ := hp.plat k p hk
    rw [hop] at h2; cases h2
    have he : ∀ e ∈ edgesOf p.o, ls.getD e false = true := fun e he => by
      obtain ⟨x, hx, hxe⟩ := List.mem_map.1 he
      obtain ⟨hx1, hx2⟩ := List.mem_filter.1 hx
      rw [← hxe]; exact h3 x (by simpa using hx1) hx2
    have hanc := edges_anc hp h hk he
    -- how many have not come up
    have hcnt' : (l.filter fun q => !(ls.setIfInBounds p.i true).getD q.i false).length ≤ fuel := by
      have : (l.filter fun q => !(ls.setIfInBounds p.i true).getD q.i false).length < (l.filter fun q => !ls.getD q.i false).length := by
        refine filter_lt (fun q _ hq => ?_) ⟨p, List.mem_of_getElem? hk, by simp only [hu, Bool.not_false], by rw [set_get hlt', if_pos rfl]; rfl⟩
        rw [set_get hlt'] at hq
        split at hq
        · cases hq
        · exact hq
      omega
    have go : ∀ {m : Nat} {tm : T} {sm : St}, wpOp P ops Q p.i (fun a' w' => ∃ E' tv', Inv P G callF ops items l t0 s0 E0 w0 m (ls.setIfInBounds p.i true) a' w' E' tm sm tv') a w →
        wpOp P ops Q p.i (wpAny P .any ops Q fuel (ls.setIfInBounds p.i true)) a w := fun hh => wpOp_mono (fun a' w' ⟨E', tv', hi⟩ => ih _ _ _ _ _ _ _ _ hi hcnt') hh
    have early : ∀ (j : Nat) (q : Plat), j < k → l[j]? = some q → q.kd.isEff = true → j < m := fun j q hj hq hqe =>
      h.lim j q hq (hanc q.i (hp.chain k p hk j q hj hq hqe))
    rcases Nat.lt_or_ge k m with hkm | hkm
    · exact go (h.pend hc hp hkm hk hu he)
    · -- how far the plan's order goes
      have hkl : k < items.length := by
        rw [hp.len]
        rcases Nat.lt_or_ge k l.length with h5 | h5
        · exact h5
        · rw [List.getElem?_eq_none h5] at hk; cases hk
      have hstop : ∀ (m2 : Nat) (t1 : T) (s1 : St) (it : Item), trC P G callF ops items t0 s0 m2 = some (t1, s1) → items[m2]? = some it → itemC P G callF ops it t1 s1 = .mk o t' s' → o ≠ .normal → k ≤ m2 ∧ it.p.kd.isEff = true ∧ ∃ q, l[m2]? = some q ∧ it.p = q := by
        intro m2 t1 s1 it e1 e2 e3 e4
        have hm2 : m2 < items.length := by
          rcases Nat.lt_or_ge m2 items.length with h5 | h5
          · exact h5
          · rw [List.getElem?_eq_none h5] at e2; cases e2
        obtain ⟨q, hq⟩ := at_of_lt (l := l) (k := m2) (by rw [← hp.len]; exact hm2)
        obtain ⟨it2, f1, f2, _⟩ := hp.item m2 q hq
        rw [e2] at f1; cases f1
        have heff : it.p.kd.isEff = true := by
          have := itemC_run e3
          cases this with
          | panic v s' _ hk' => exact hk'
          | _ => exact absurd rfl e4
        refine ⟨?_, heff, q, hq, f2⟩
        rcases Nat.lt_or_ge m2 k with h5 | h5
        · have := early m2 q h5 hq (by rw [← f2]; exact heff)
          have := tr_stop e1 e2 e3 e4 h.at_
          omega
        · exact h5
      have htk : ∃ tk sk, trC P G callF ops items t0 s0 k = some (tk, sk) := by
        rcases hend with ⟨_, he'⟩ | ⟨m2, t1, s1, it, e1, e2, e3, e4⟩
        · exact tr_le he' (Nat.le_of_lt hkl)
        · exact tr_le e1 (hstop m2 t1 s1 it e1 e2 e3 e4).1
      obtain ⟨tk, sk, htk⟩ := htk
      obtain ⟨n, rfl⟩ := Nat.exists_eq_add_of_le hkm
      have hk1 := Inv.advTo hp n h (fun j q hj hj2 hq => by
        cases hx : q.kd.isEff with
        | false => rfl
        | true => have := early j q hj2 hq hx; omega) htk
      cases heff : p.kd.isEff with
      | true =>
        obtain ⟨it, i1, i2, _⟩ := hp.item _ p hk
        rcases hend with ⟨ho, he'⟩ | ⟨m2, t1, s1, it2, e1, e2, e3, e4⟩
        · obtain ⟨t1, s1, htr⟩ := tr_le he' (show m + n + 1 ≤ items.length by omega)
          obtain ⟨t2, s2, it2, e1, e2, e3⟩ := tr_succ htr
          rw [htk] at e1; cases e1
          exact go (hk1.effect hc hp hk hu he heff e2 e3 fun x hx => by cases hx)
        · obtain ⟨hle, _, _⟩ := hstop m2 t1 s1 it2 e1 e2 e3 e4
          rcases Nat.lt_or_ge (m + n) m2 with h5 | h5
          · obtain ⟨t3, s3, htr⟩ := tr_le e1 (show m + n + 1 ≤ m2 by omega)
            obtain ⟨t2, s2, it3, f1, f2, f3⟩ := tr_succ htr
            rw [htk] at f1; cases f1
            exact go (hk1.effect hc hp hk hu he heff f2 f3 fun x hx => by cases hx)
          · have : m2 = m + n := by omega
            subst this
            rw [htk] at e1; cases e1
            exact go (hk1.effect hc hp hk hu he heff e2 e3 fun x hx E' a' w' v' hs ht hv => hQ _ a' w' E' hs ht (by rw [hx]; exact ⟨v', rfl, hv⟩))
      | false =>
        have hnext : ∃ t1 s1, trC P G callF ops items t0 s0 (m + n + 1) = some (t1, s1) := by
          rcases hend with ⟨_, he'⟩ | ⟨m2, t1, s1, it2, e1, e2, e3, e4⟩
          · exact tr_le he' (by omega)
          · obtain ⟨hle, hx, q, hq, hqe⟩ := hstop m2 t1 s1 it2 e1 e2 e3 e4
            refine tr_le e1 ?_
            rcases Nat.lt_or_ge (m + n) m2 with h5 | h5
            · exact h5
            · have : m2 = m + n := by omega
              subst this
              rw [hk] at hq; cases hq
              rw [hqe, heff] at hx; cases hx
        obtain ⟨t1, s1, htr⟩ := hnext
        have hk2 := hk1.advance hp hk heff htr
        exact go (hk2.pend hc hp (Nat.lt_succ_self _) hk hu he)
theorem draw_ok (hm : P.follows .mixedOrders = true) (hc : CFok P G callF) {id : Nat} {t t' : T} {s s' : St} {o : Out} {a : Act} {w : World} {E : Env} (h : Rel E s w) (hG : GlobOk E G w) (ht : TR E t a)
    (hr : regionC P G callF ops true t s = .mk o t' s') (hQ : ∀ e a' w' E', Step E s w E' s' w' → TR E' t' a' → OutR E' o e → Q e a' w') : (Code.region id ops true).wp P Q a w := by
  unfold regionC at hr
  simp only [cond_true] at hr
  cases hpl : planOf P ops with
  | none => rw [hpl] at hr; cases hr
  | some items =>
    simp only [hpl] at hr
    obtain ⟨l, hp⟩ := planOf_ok hpl
    have hs := Step.drew h
    have hend : Ends P G callF ops items t s o t' s' := items_end items 0 rfl (by simp) rfl hr
    refine wp_region_any hm (draw_any hc hp (E0 := E) (w0 := { w with drawn := w.drawn + 1 }) hend (fun e a' w' E' hs' ht' ho => hQ e a' w' E' (hs.trans hs') ht' ho) ops.size 0 _ a _ E t s t ?_ ?_)
    · refine ⟨by simp, rfl, fun k p hk => absurd hk (Nat.not_lt_zero k), fun k p hk hl => ?_, fun i o' hi => ?_, .refl hs.rel, hG, ht, rfl, rfl, fun k p x hk hl => ?_, fun _ _ => rfl, ?_, fun k p _ _ hk => absurd hk (Nat.not_lt_zero k), fun k p _ _ hk => absurd hk (Nat.not_lt_zero k)⟩
      · simp [Array.getElem?_replicate] at hl
        split at hl <;> simp at hl
      · simp [Array.getElem?_replicate] at hi
        split at hi <;> simp at hi
      · simp [Array.getElem?_replicate] at hl
        split at hl <;> simp at hl
      · intro k k' tk tk' sk sk' hle hle' e1 e2
        have h1 : k' = 0 := by omega
        have h2 : k = 0 := by omega
        subst h1 h2
        rw [e1] at e2; cases e2; exact Nat.le_refl _
    · rw [← hp.size]; exact List.length_filter_le ..
theorem region_ok (hm : P.follows .mixedOrders = true) (hc : CFok P G callF) {id : Nat} {draw : Bool} {t t' : T} {s s' : St} {o : Out} {a : Act} {w : World} {E : Env} (h : Rel E s w) (hG : GlobOk E G w) (ht : TR E t a)
    (hr : regionC P G callF ops draw t s = .mk o t' s') (hQ : ∀ e a' w' E', Step E s w E' s' w' → TR E' t' a' → OutR E' o e → Q e a' w') : (Code.region id ops draw).wp P Q a w := by
  cases draw with
  | true => exact draw_ok hm hc h hG ht hr hQ
  | false =>
    refine wp_region ?_
    unfold regionC plainItems at hr
    simp only [cond_false] at hr
    have := plain_ok (Q := Q) hc ops.toList 0 rfl h hG ht hr hQ
    simpa [List.range_eq_range'] using this
end
end Go.Am
end
section
namespace Go.Am
section
variable {P : Program} {G : Glob} {callF : CF}
theorem OutR.normal {E : Env} {e : Exit} (h : OutR E .normal e) : e = .normal := by cases e <;> first | rfl | cases h
theorem OutR.ne {E : Env} {o : Out} {e : Exit} (h : OutR E o e) (ho : o ≠ .normal) : e ≠ .normal := by
  rintro rfl; cases o <;> first | exact ho rfl | cases h
theorem then_ne {next : Act → World → Prop} {Q : Exit → Act → World → Prop} {e : Exit} {a : Act} {w : World} (he : e ≠ .normal) (h : Q e a w) : Exit.then next Q e a w := by
  cases e <;> first | exact absurd rfl he | exact h
structure Sound (P : Program) (G : Glob) (k : K) (c : Code) : Prop where
  go : ∀ {Q : Exit → Act → World → Prop} {t t' : T} {s s' : St} {o : Out} {a : Act} {w : World} {E : Env}, Rel E s w → GlobOk E G w → TR E t a → k t s = .mk o t' s' →
    (∀ e a' w' E', Step E s w E' s' w' → TR E' t' a' → OutR E' o e → Q e a' w') → c.wp P Q a w
theorem then_sound {x y : K} {c d : Code} (hx : Sound P G x c) (hy : Sound P G y d) : Sound P G (thenC x y) (.seq c d) := by
  refine ⟨?_⟩
  intro Q t t' s s' o a w E h hG ht hr hQ
  unfold thenC at hr
  split at hr
  · rename_i o1 t1 s1 e1
    refine wp_seq (hx.go h hG ht e1 fun e a1 w1 E1 hs1 ht1 ho1 => ?_)
    split at hr
    · rw [ho1.normal]
      exact hy.go hs1.rel (hG.step h hs1) ht1 hr fun e2 a2 w2 E2 hs2 ht2 ho2 => hQ e2 a2 w2 E2 (hs1.trans hs2) ht2 ho2
    · rename_i hne
      cases hr
      exact then_ne (ho1.ne hne) (hQ e a1 w1 E1 hs1 ht1 ho1)
  · cases hr
theorem loop_sound {x : K} {c : Code} (hx : Sound P G x c) : ∀ (n : Nat) {Q : Exit → Act → World → Prop} {t t' : T} {s s' : St} {o : Out} {a : Act} {w : World} {E : Env}, Rel E s w → GlobOk E G w → TR E t a →
    loopN x n t s = .mk o t' s' → (∀ e a' w' E', Step E s w E' s' w' → TR E' t' a' → OutR E' o e → Q e a' w') → Code.rounds P c Q n a w
  | 0, Q, t, t', s, s', o, a, w, E, _, _, _, hr, _ => by cases hr
  | n + 1, Q, t, t', s, s', o, a, w, E, h, hG, ht, hr, hQ => by
    simp only [loopN, thenC] at hr
    rw [rounds_succ]
    split at hr
    · rename_i o1 t1 s1 e1
      refine hx.go h hG ht e1 fun e a1 w1 E1 hs1 ht1 ho1 => ?_
      split at hr
      · rw [ho1.normal]
        exact loop_sound hx n hs1.rel (hG.step h hs1) ht1 hr fun e2 a2 w2 E2 hs2 ht2 ho2 => hQ e2 a2 w2 E2 (hs1.trans hs2) ht2 ho2
      · rename_i hne
        cases hr
        exact then_ne (ho1.ne hne) (hQ e a1 w1 E1 hs1 ht1 ho1)
    · cases hr
theorem block_sound {x : K} {c : Code} {id : Nat} (hx : Sound P G x c) : Sound P G (blockC id x) (.block id c) := by
  refine ⟨?_⟩
  intro Q t t' s s' o a w E h hG ht hr hQ
  unfold blockC at hr
  split at hr
  · rename_i o1 t1 s1 e1
    refine wp_block (hx.go h hG ht e1 fun e a1 w1 E1 hs1 ht1 ho1 => ?_)
    split at hr
    · rename_i i
      cases e with
      | exit j =>
        have hij : i = j := ho1
        subst hij
        rcases Bool.eq_false_or_eq_true (i.beq id) with hb | hb
        · have := Nat.eq_of_beq_eq_true hb
          subst this
          rw [cond_of_true hb] at hr
          cases hr
          simp only [Exit.inBlock, if_true]
          exact hQ .normal a1 w1 E1 hs1 ht1 trivial
        · have : i ≠ id := fun e => by subst e; simp at hb
          rw [cond_of_false hb] at hr
          cases hr
          simp only [Exit.inBlock, if_neg this]
          exact hQ (.exit i) a1 w1 E1 hs1 ht1 rfl
      | _ => cases ho1
    · rename_i hne
      cases hr
      have hq := hQ e a1 w1 E1 hs1 ht1 ho1
      cases e with
      | exit j => cases o <;> first | exact absurd rfl (hne _) | cases ho1
      | _ => exact hq
  · cases hr
theorem exec_ok (hm : P.follows .mixedOrders = true) (hc : CFok P G callF) (n : Nat) : ∀ c : Code, Sound P G (execC P G callF n c) c
  | .skip => by
    refine ⟨?_⟩
    intro Q t t' s s' o a w E h hG ht hr hQ
    cases hr
    exact wp_skip (hQ .normal a w E (.refl h) ht trivial)
  | .label l => by
    refine ⟨?_⟩
    intro Q t t' s s' o a w E h hG ht hr hQ
    cases hr
    exact wp_label (hQ .normal a w E (.refl h) ht trivial)
  | .region id ops draw => by
    refine ⟨?_⟩
    intro Q t t' s s' o a w E h hG ht hr hQ
    exact region_ok hm hc h hG ht hr hQ
  | .seq x y => then_sound (exec_ok hm hc n x) (exec_ok hm hc n y)
  | .cond c x y => by
    refine ⟨?_⟩
    intro Q t t' s s' o a w E h hG ht hr hQ
    have hx := exec_ok hm hc n x
    have hy := exec_ok hm hc n y
    have hev := evC_ok hG ht c
    simp only [execC, condC] at hr
    split at hr
    · rename_i u e
      rw [e] at hev
      generalize hv : a.eval c = v at hev
      cases hev
      refine wp_cond hv ?_
      cases u with
      | true => exact hx.go h hG ht hr hQ
      | false => exact hy.go h hG ht hr hQ
    · cases hr
  | .block id c => block_sound (exec_ok hm hc n c)
  | .loop c => by
    refine ⟨?_⟩
    intro Q t t' s s' o a w E h hG ht hr hQ
    exact wp_loop_rounds n (loop_sound (exec_ok hm hc n c) n h hG ht hr hQ)
  | .exit id => by
    refine ⟨?_⟩
    intro Q t t' s s' o a w E h hG ht hr hQ
    cases hr
    exact wp_exit (hQ (.exit id) a w E (.refl h) ht rfl)
  | .ret => by
    refine ⟨?_⟩
    intro Q t t' s s' o a w E h hG ht hr hQ
    cases hr
    exact wp_ret (hQ .ret a w E (.refl h) ht trivial)
  | .rangeFunc _ _ _ _ => by refine ⟨?_⟩; intro Q t t' s s' o a w E h hG ht hr hQ; cases hr
  | .scope _ => by refine ⟨?_⟩; intro Q t t' s s' o a w E h hG ht hr hQ; cases hr
  | .goto _ => by refine ⟨?_⟩; intro Q t t' s s' o a w E h hG ht hr hQ; cases hr
  | .refuse _ => by refine ⟨?_⟩; intro Q t t' s s' o a w E h hG ht hr hQ; cases hr
/-! ## Functions -/
theorem setArgs_get {x : Nat} : ∀ (l : List AV) (i : Nat) (t : Tr AV), (setArgs l i t).getP (pathOf x) = if i ≤ x ∧ x < i + l.length then l[x - i]? else t.getP (pathOf x)
  | [], i, t => by simp only [setArgs, List.length_nil]; rw [if_neg (by omega)]
  | v :: l, i, t => by
    simp only [setArgs]
    rw [setArgs_get l (i + 1)]
    simp only [List.length_cons]
    by_cases h1 : x = i
    · subst h1
      rw [if_neg (by omega), if_pos (by omega), Tr.getP_setP_same]; simp
    · rw [Tr.getP_setP_ne _ _ _ _ (fun e => h1 (pathOf_inj e).symm)]
      by_cases h2 : i + 1 ≤ x ∧ x < i + 1 + l.length
      · rw [if_pos h2, if_pos (by omega)]
        rw [show x - i = (x - (i + 1)) + 1 by omega]; simp
      · rw [if_neg h2, if_neg (by omega)]
theorem enter_TR {E : Env} {args : List AV} {vs : List Value} (h : VRL E args vs) {n : Nat} (hn : args.length ≤ n) :
    TR E ⟨setArgs args 0 .nil, n, [], .no⟩ { tmps := (⟨vs⟩ : Array Value) ++ Array.replicate (n - vs.length) undef, defers := [] } := by
  have hl := h.length
  refine ⟨by simp; omega, fun i => ?_, .nil⟩
  unfold getT
  simp only
  rw [setArgs_get]
  by_cases hi : i < args.length
  · rw [if_pos (by omega)]
    obtain ⟨x, hx⟩ : ∃ x, args[i]? = some x := ⟨args[i], List.getElem?_eq_getElem hi⟩
    obtain ⟨v, h1, h2⟩ := h.at_ hx
    rw [Nat.sub_zero, hx]
    simp only
    have : (((⟨vs⟩ : Array Value) ++ Array.replicate (n - vs.length) undef).getD i undef) = v := by
      rw [Array.getD_eq_getD_getElem?, Array.getElem?_append_left (by simp; omega)]
      simp [h1]
    rw [this]; exact h2
  · rw [if_neg (by omega), Tr.getP_nil]; exact .undef _
def oneRes (tmps : Array Value) (rv : ResultVar) : Sem Value :=
  match rv with
  | .tmp t => pure (tmps.getD t undef)
  | .cell b t => do loadVar t (← asAddr (tmps.getD b undef))
theorem resOf_ok {E : Env} {s : St} {w : World} {t : T} {a : Act} (h : Rel E s w) (ht : TR E t a) {rv : ResultVar} {x : AV} (hx : resOf P rv t s = some x) :
    ∃ v, VR E x v ∧ (oneRes a.tmps rv).run P w = .ok v w := by
  unfold oneRes
  cases rv with
  | tmp i =>
    simp only [resOf, Option.some.injEq] at hx
    subst hx
    exact ⟨_, ht.val i, rfl⟩
  | cell b ty =>
    simp only [resOf] at hx
    have hb := ht.val b
    cases hs : shapeT P ty with
    | none => rw [hs] at hx; cases hx
    | some sh =>
      cases sh with
      | some n =>
        rw [hs] at hx
        simp only at hx
        obtain ⟨h1, h2⟩ := shapeT_agg hs
        split at hx
        · rename_i l hl
          cases hx
          obtain ⟨b', off, vs, e1, e2, e3, e4⟩ := h.cells hl hb
          refine ⟨.agg ⟨vs⟩, .agg e2, ?_⟩
          have hl : (loadCells ⟨b', off, none⟩ n).run P w = .ok ⟨vs⟩ w := by
            have := run_loadCells_list (P := P) (w := w) ⟨b', off, none⟩ vs (fun j v hj => by rw [Addr.add_lit]; exact e4 j v hj)
            rw [← e2.length, e3] at this
            exact this
          simp [e1, asAddr, loadVar, isAgg_run h1, sizeT_run h2, hl]
        · cases hx
      | none =>
        rw [hs] at hx
        simp only at hx
        have h1 := shapeT_one hs
        obtain ⟨b', off, u, e1, e2, e3⟩ := h.cell1 hx hb
        refine ⟨u, e2, ?_⟩
        simp [e1, asAddr, loadVar, isAgg_run h1, e3]
theorem resultsC_ok {E : Env} {s : St} {w : World} {t : T} {a : Act} (h : Rel E s w) (ht : TR E t a) : ∀ {rs : List ResultVar} {l : List AV}, resultsC P rs t s = some l →
    ∃ vs, VRL E l vs ∧ (rs.mapM (oneRes a.tmps)).run P w = .ok vs w
  | [], l, hl => by
    simp only [resultsC, Option.some.injEq] at hl
    subst hl
    exact ⟨[], .nil, rfl⟩
  | rv :: rs, l, hl => by
    simp only [resultsC] at hl
    split at hl
    · rename_i x q h1 h2
      cases hl
      obtain ⟨v, hv, hr⟩ := resOf_ok h ht h1
      obtain ⟨vs, hvs, hrs⟩ := resultsC_ok h ht h2
      refine ⟨v :: vs, .cons hv hvs, ?_⟩
      rw [List.mapM_cons]
      simp only [Sem.run_bind, hr, Result.andThen_ok, hrs]
      rfl
    · cases hl
theorem results_ok {E : Env} {s : St} {w : World} {t : T} {a : Act} (h : Rel E s w) (ht : TR E t a) {fn : Func} {l : List AV} (hl : resultsC P fn.results.toList t s = some l) :
    ∃ v, VR E (oneC l) v ∧ (results fn a.tmps).run P w = .ok v w := by
  obtain ⟨vs, h1, h2⟩ := resultsC_ok h ht hl
  have hlen := h1.length
  have e : results fn a.tmps = (do
      let vs ← fn.results.mapM (oneRes a.tmps)
      pure (if h : vs.size = 1 then vs[0] else .tuple vs)) := rfl
  rw [e, ← Array.toArray_toList (xs := fn.results), List.mapM_toArray]
  have hm : (List.toArray <$> fn.results.toList.mapM (oneRes a.tmps)).run P w = .ok ⟨vs⟩ w := by
    rw [map_eq_pure_bind, Sem.run_bind, h2]; rfl
  refine ⟨_, ?_, by rw [Sem.run_bind, hm]; rfl⟩
  cases h1 with
  | nil => exact .tup .nil
  | cons h h' =>
    cases h' with
    | nil => exact h
    | cons h'' h3 =>
      simp only [oneC]
      rw [dif_neg (by simp)]
      exact .tup (.cons h (.cons h'' h3))
end
end Go.Am
end
section
namespace Go.Am
def NoNG (P : Program) : Prop := ∀ (f : FuncId) (fn : Func), P.funcs[f]? = some fn → fn.name ≠ "runtime.NumGoroutine"
def Recov (E : Env) (rv : AV) (u : FrameMode) : Prop := (u = .returning ∧ rv = .nilifc) ∨ ∃ v, u = .panicking [{ v := v, recovered := false }] ∧ VR E rv v
section
variable {P : Program} {G : Glob} {callF : CF}
theorem callD_one (hm : P.follows .mixedOrders = true) (hn : NoNG P) (hc : CFok P G callF) {n : Nat} {f : FuncId} {rv : AV} {args : List AV} {s s' : St} {E : Env} {w : World} {vs : List Value} {u : FrameMode}
    (h : Rel E s w) (hG : GlobOk E G w) (ha : VRL E args vs) (hrv : Recov E rv u) {fn : Func} (hfn : P.funcs[f]? = some fn) {id : Nat} {ops : Array Oper} {rest : Code} (hbody : fn.body = some (.seq (.region id ops false) rest))
    {r : Oper} (hops : ops.toList = [r]) {F : AV → List AV → St → Option St}
    (hF : (match r.op, r.guard with
        | .call { callee := .builtin .recover, .. }, none => bif fn.results.toList.isEmpty then
            let k := execC P G callF n rest
            fun rv args s => bif Nat.ble args.length fn.ntmps then
              match k (putC r.dst rv ⟨setArgs args 0 .nil, fn.ntmps, [], .no⟩) s with
              | .mk out t s => match t.ds, out with
                | [], .normal | [], .ret => some s
                | _, _ => none
              | .fail => none
            else none
          else fun _ _ _ => none
        | _, _ => fun _ _ _ => none) = F) (hr : F rv args s = some s') :
    Enters P f ∧ CallsD P f ⟨vs⟩ u w fun e u' w' => ∃ v' E', e = .returned v' ∧ settle u' = .returning ∧ Step E s w E' s' w' := by
  split at hF
  rotate_left
  · subst hF; cases hr
  rename_i as ts hop hg1
  rcases Bool.eq_false_or_eq_true fn.results.toList.isEmpty with hb | hb
  rotate_left
  · rw [cond_of_false hb] at hF; subst hF; cases hr
  rw [cond_of_true hb] at hF
  subst hF
  simp only at hr
  rcases Bool.eq_false_or_eq_true (Nat.ble args.length fn.ntmps) with hl | hl
  rotate_left
  · rw [cond_of_false hl] at hr; cases hr
  rw [cond_of_true hl] at hr
  have hle := Nat.le_of_ble_eq_true hl
  have hres : fn.results = #[] := by
    have : fn.results.toList = [] := by simpa using hb
    exact Array.toList_eq_nil_iff.1 this
  refine ⟨⟨fn, hfn, by rw [hbody]; rfl, hn f fn hfn⟩, callsD_of_wpS hfn hbody fun c₀ cs hu => wpS_seq (wpS_region ?_)⟩
  have h0 : ops[0]? = some r := by
    have : ops.toList[0]? = some r := by rw [hops]; rfl
    simpa using this
  have hsz : ops.size = 1 := by rw [← Array.length_toList, hops]; rfl
  have ht0 := enter_TR ha hle
  have hw : ∀ (y : Nat → Option Bool) (o : Oper), o.guard = none → Region.wanted o y = true := fun y o hg => by unfold Region.wanted; rw [hg]
  have hrec : ∀ (a : Act), (execOp a.eval r).run P w = .ok .recover w := fun a => by simp [execOp, hop, resolve, invoke, builtin]
  have fin : ∀ (v : Value) (u' : FrameMode) (cs' : List Frame), VR E rv v → cs' = { c₀ with mode := u' } :: cs → settle u' = .returning → ∀ a1, a1 = ({ tmps := (⟨vs⟩ : Array Value) ++ Array.replicate (fn.ntmps - vs.length) undef, defers := [] } : Act).put r.dst v →
      rest.wpS P (bodyPostS P fn c₀ cs fun e u' w' => ∃ v' E', e = .returned v' ∧ settle u' = .returning ∧ Step E s w E' s' w') a1 cs' w := by
    intro v u' cs' hv hcs hu' a1 ha1
    have ht1 := ht0.putC r.dst hv
    rw [← ha1] at ht1
    refine wpS_of_wp ?_
    split at hr
    · rename_i out t s1 e1
      refine (exec_ok hm hc n rest).go h hG ht1 e1 fun e a' w' E' hs hta ho => ?_
      have hds := hta.ds
      split at hr
      · rename_i hd
        cases hr
        rw [ho.normal]
        rw [hd] at hds
        generalize hdd : a'.defers = dd at hds
        cases hds
        exact ⟨hdd, u', hcs, .tuple #[], results_none hres _ _ _, _, E', rfl, hu', hs⟩
      · rename_i hd
        cases hr
        have : e = .ret := by cases e <;> first | rfl | cases ho
        subst this
        rw [hd] at hds
        generalize hdd : a'.defers = dd at hds
        cases hds
        exact ⟨hdd, u', hcs, .tuple #[], results_none hres _ _ _, _, E', rfl, hu', hs⟩
      · cases hr
    · cases hr
  rw [hsz]
  show wpOpsS P ops _ [0] _ _ _
  unfold wpOpsS
  simp only [h0, hw _ r hg1, if_true, hrec]
  rcases hrv with ⟨hu1, hrv1⟩ | ⟨v, hu1, hrv1⟩
  · have hrD : recoverD (c₀ :: cs) = none := by simp [recoverD, hu, hu1]
    rw [hrD]
    subst hrv1
    exact fin .nilIface .returning (c₀ :: cs) .nilifc (by rw [← hu1, ← hu]) rfl _ rfl
  · have hrD : recoverD (c₀ :: cs) = some (v, { c₀ with mode := .panicking [{ v := v, recovered := true }] } :: cs) := by simp [recoverD, hu, hu1]
    rw [hrD]
    exact fin v (.panicking [{ v := v, recovered := true }]) _ hrv1 rfl rfl _ rfl
theorem callD_ok (hm : P.follows .mixedOrders = true) (hn : NoNG P) (hc : CFok P G callF) {n : Nat} {f : FuncId} {rv : AV} {args : List AV} {s s' : St} {E : Env} {w : World} {vs : List Value} {u : FrameMode}
    (h : Rel E s w) (hG : GlobOk E G w) (ha : VRL E args vs) (hrv : Recov E rv u) (hr : callD P G callF n f rv args s = some s') :
    Enters P f ∧ CallsD P f ⟨vs⟩ u w fun e u' w' => ∃ v' E', e = .returned v' ∧ settle u' = .returning ∧ Step E s w E' s' w' := by
  suffices key : ∀ F, callD P G callF n f = F → F rv args s = some s' → _ from key _ rfl hr
  intro F hF hr
  unfold callD at hF
  split at hF
  rotate_left
  · subst hF; cases hr
  rename_i fn hfn
  split at hF
  rotate_left
  · subst hF; cases hr
  rename_i id ops rest hbody
  split at hF
  rotate_left
  · rename_i r hops
    exact callD_one hm hn hc h hG ha hrv hfn hbody hops hF hr
  · subst hF; cases hr
  rename_i r o hops
  split at hF
  rotate_left
  · subst hF; cases hr
  rename_i as ts x hop hg1 hox hg2
  rcases Bool.eq_false_or_eq_true fn.results.toList.isEmpty with hb | hb
  rotate_left
  · rw [cond_of_false hb] at hF; subst hF; cases hr
  rw [cond_of_true hb] at hF
  subst hF
  simp only at hr
  rcases Bool.eq_false_or_eq_true (Nat.ble args.length fn.ntmps) with hl | hl
  rotate_left
  · rw [cond_of_false hl] at hr; cases hr
  rw [cond_of_true hl] at hr
  have hle := Nat.le_of_ble_eq_true hl
  have hres : fn.results = #[] := by
    have : fn.results.toList = [] := by simpa using hb
    exact Array.toList_eq_nil_iff.1 this
  refine ⟨⟨fn, hfn, by rw [hbody]; rfl, hn f fn hfn⟩, callsD_of_wpS hfn hbody fun c₀ cs hu => wpS_seq (wpS_region ?_)⟩
  have h0 : ops[0]? = some r := by
    have : ops.toList[0]? = some r := by rw [hops]; rfl
    simpa using this
  have h1 : ops[1]? = some o := by
    have : ops.toList[1]? = some o := by rw [hops]; rfl
    simpa using this
  have hsz : ops.size = 2 := by rw [← Array.length_toList, hops]; rfl
  have ht0 := enter_TR ha hle
  have hw : ∀ (y : Nat → Option Bool) (o : Oper), o.guard = none → Region.wanted o y = true := fun y o hg => by unfold Region.wanted; rw [hg]
  have hrec : ∀ (a : Act), (execOp a.eval r).run P w = .ok .recover w := fun a => by simp [execOp, hop, resolve, invoke, builtin]
  have hasn : ∀ (a : Act), (execOp a.eval o).run P w = .ok (.value (a.eval x)) w := fun a => by simp [execOp, hox]
  -- the rest
  have fin : ∀ (v : Value) (u' : FrameMode) (cs' : List Frame), VR E rv v → cs' = { c₀ with mode := u' } :: cs → settle u' = .returning → ∀ a1, a1 = ({ tmps := (⟨vs⟩ : Array Value) ++ Array.replicate (fn.ntmps - vs.length) undef, defers := [] } : Act).put r.dst v →
      rest.wpS P (bodyPostS P fn c₀ cs fun e u' w' => ∃ v' E', e = .returned v' ∧ settle u' = .returning ∧ Step E s w E' s' w') (a1.put o.dst (a1.eval x)) cs' w := by
    intro v u' cs' hv hcs hu' a1 ha1
    have ht1 := ht0.putC r.dst hv
    rw [← ha1] at ht1
    have ht2 := ht1.putC o.dst (evC_ok hG ht1 x)
    refine wpS_of_wp ?_
    split at hr
    · rename_i out t s1 e1
      refine (exec_ok hm hc n rest).go h hG ht2 e1 fun e a' w' E' hs hta ho => ?_
      have hds := hta.ds
      split at hr
      · rename_i hd
        cases hr
        rw [ho.normal]
        rw [hd] at hds
        generalize hdd : a'.defers = dd at hds
        cases hds
        exact ⟨hdd, u', hcs, .tuple #[], results_none hres _ _ _, _, E', rfl, hu', hs⟩
      · rename_i hd
        cases hr
        have : e = .ret := by cases e <;> first | rfl | cases ho
        subst this
        rw [hd] at hds
        generalize hdd : a'.defers = dd at hds
        cases hds
        exact ⟨hdd, u', hcs, .tuple #[], results_none hres _ _ _, _, E', rfl, hu', hs⟩
      · cases hr
    · cases hr
  rw [hsz]
  show wpOpsS P ops _ [0, 1] _ _ _
  unfold wpOpsS
  simp only [h0, hw _ r hg1, if_true, hrec]
  rcases hrv with ⟨hu1, hrv1⟩ | ⟨v, hu1, hrv1⟩
  · have hrD : recoverD (c₀ :: cs) = none := by simp [recoverD, hu, hu1]
    rw [hrD]
    simp only
    unfold wpOpsS
    simp only [h1, hw _ o hg2, if_true, hasn]
    subst hrv1
    exact fin .nilIface .returning (c₀ :: cs) .nilifc (by rw [← hu1, ← hu]) rfl _ rfl
  · have hrD : recoverD (c₀ :: cs) = some (v, { c₀ with mode := .panicking [{ v := v, recovered := true }] } :: cs) := by simp [recoverD, hu, hu1]
    rw [hrD]
    simp only
    unfold wpOpsS
    simp only [h1, hw _ o hg2, if_true, hasn]
    exact fin v (.panicking [{ v := v, recovered := true }]) _ hrv1 rfl rfl _ rfl
theorem callE_ok (hm : P.follows .mixedOrders = true) (hn : NoNG P) (hc : CFok P G callF) {n : Nat} {f : FuncId} {args : List AV} {s s' : St} {E : Env} {w : World} {vs : List Value}
    (h : Rel E s w) (hG : GlobOk E G w) (ha : VRL E args vs) (hr : callE P G callF n f args s = some s') :
    Enters P f ∧ CallsD P f ⟨vs⟩ .returning w fun e u' w' => ∃ v' E', e = .returned v' ∧ settle u' = .returning ∧ Step E s w E' s' w' := by
  suffices key : ∀ F, callE P G callF n f = F → F args s = some s' → _ from key _ rfl hr
  intro F hF hr
  unfold callE at hF
  split at hF
  rotate_left
  · subst hF; cases hr
  rename_i fn hfn
  split at hF
  rotate_left
  · subst hF; cases hr
  rename_i body hbody
  rcases Bool.eq_false_or_eq_true fn.results.toList.isEmpty with hb | hb
  rotate_left
  · rw [cond_of_false hb] at hF; subst hF; cases hr
  rw [cond_of_true hb] at hF
  subst hF
  simp only at hr
  rcases Bool.eq_false_or_eq_true (Nat.ble args.length fn.ntmps) with hl | hl
  rotate_left
  · rw [cond_of_false hl] at hr; cases hr
  rw [cond_of_true hl] at hr
  have hle := Nat.le_of_ble_eq_true hl
  have hres : fn.results = #[] := by
    have : fn.results.toList = [] := by simpa using hb
    exact Array.toList_eq_nil_iff.1 this
  refine ⟨⟨fn, hfn, by rw [hbody]; rfl, hn f fn hfn⟩, callsD_of_wpS hfn hbody fun c₀ cs hu => ?_⟩
  have ht1 := enter_TR ha hle
  refine wpS_of_wp ?_
  split at hr
  · rename_i out t s1 e1
    refine (exec_ok hm hc n body).go h hG ht1 e1 fun e a' w' E' hs hta ho => ?_
    have hds := hta.ds
    split at hr
    · rename_i hd
      cases hr
      rw [ho.normal]
      rw [hd] at hds
      generalize hdd : a'.defers = dd at hds
      cases hds
      exact ⟨hdd, .returning, by rw [← hu], .tuple #[], results_none hres _ _ _, _, E', rfl, rfl, hs⟩
    · rename_i hd
      cases hr
      have : e = .ret := by cases e <;> first | rfl | cases ho
      subst this
      rw [hd] at hds
      generalize hdd : a'.defers = dd at hds
      cases hds
      exact ⟨hdd, .returning, by rw [← hu], .tuple #[], results_none hres _ _ _, _, E', rfl, rfl, hs⟩
    · cases hr
  · cases hr
def ModeOk (E : Env) : Out → FrameMode → Prop
  | .ret, u => u = .returning
  | .panic x, u => ∃ v, u = .panicking [{ v := v, recovered := false }] ∧ VR E x v
  | _, _ => False
theorem leaves_ok (hm : P.follows .mixedOrders = true) (hn : NoNG P) (hc : CFok P G callF) {n : Nat} {fn : Func} {t : T} {a : Act} {R : Ending → World → Prop} {E0 : Env} {s0 : St} {w0 : World} {o2 : Out} {s2 : St}
    (hR : ∀ E w u, Step E0 s0 w0 E s2 w → ModeOk E o2 u → TR E t a → Leaves P fn a.tmps R [] u w) : ∀ (l : List (FuncId × List AV)) (ds : List Deferred) (o : Out) (u : FrameMode) {E : Env} {s : St} {w : World},
    Step E0 s0 w0 E s w → GlobOk E G w → TR E t a → DfrsR E l ds → ModeOk E o u → runDs (callB P G callF n) l o s = some (o2, s2) → Leaves P fn a.tmps R ds u w
  | [], ds, o, u, E, s, w, hs, hG, ht, hd, hmo, hr => by
    cases hd
    simp only [runDs, Option.some.injEq, Prod.mk.injEq] at hr
    obtain ⟨rfl, rfl⟩ := hr
    exact hR E w u hs hmo ht
  | (f, args) :: l, ds, o, u, E, s, w, hs, hG, ht, hd, hmo, hr => by
    cases hd with
    | cons hd hds =>
      rename_i d ds
      obtain ⟨cap, h1, h2⟩ := hd
      simp only [runDs] at hr
      split at hr
      · rename_i s1 e1
        have hrv : Recov E (rcOf o) u := by
          cases o with
          | ret => exact .inl ⟨hmo, rfl⟩
          | panic x => exact .inr hmo
          | normal => exact hmo.elim
          | exit i => exact hmo.elim
        obtain ⟨hent, hcall⟩ : Enters P f ∧ CallsD P f ⟨d.args.toList ++ cap⟩ u w fun e u' w' => ∃ v' E', e = .returned v' ∧ settle u' = .returning ∧ Step E s w E' s1 w' := by
          unfold callB at e1
          split at e1
          · rename_i s2 e2
            cases e1
            exact callD_ok hm hn hc hs.rel hG h2 hrv e2
          · split at e1
            · have hmo : u = .returning := hmo
              subst hmo
              exact callE_ok hm hn hc hs.rel hG h2 e1
            · cases e1
        refine ⟨?_, .func f, ⟨cap⟩, f, ⟨d.args.toList ++ cap⟩, h1, ?_, ?_⟩
        · rintro rfl
          cases o with
          | ret => cases hmo
          | panic x => obtain ⟨v, hv, _⟩ := hmo; cases hv
          | normal => exact hmo
          | exit i => exact hmo
        · rw [h1]
          have : (⟨d.args.toList ++ cap⟩ : Array Value) = d.args ++ ⟨cap⟩ := by apply Array.ext'; simp
          rw [this]
          exact run_callFunc hent _ _
        · refine CallsD.mono hcall fun e u' w' ⟨v', E', he, hset, hst⟩ => ?_
          subst he
          simp only
          rw [hset]
          exact leaves_ok hm hn hc hR l ds .ret .returning (hs.trans hst) (hG.step hs.rel hst) (ht.mono hst.le) (hds.mono hst.le) rfl hr
      · cases hr
theorem endC_ok (hm : P.follows .mixedOrders = true) (hn : NoNG P) (hc : CFok P G callF) {n : Nat} {fn : Func} {t : T} {a : Act} {E0 E : Env} {s0 s : St} {w0 w : World} {o : Out} {u : FrameMode} {r : Res}
    (hs : Step E0 s0 w0 E s w) (hG : GlobOk E G w) (ht : TR E t a) (hmo : ModeOk E o u) (hr : endC P fn.results.toList (callB P G callF n) o t s = r) (hf : r ≠ .fail)
    {R : Ending → World → Prop} (h1 : ∀ x s', r = .ret x s' → ∀ v w' E', Step E0 s0 w0 E' s' w' → VR E' x v → R (.returned v) w')
    (h2 : ∀ x s', r = .panic x s' → ∀ v w' E', Step E0 s0 w0 E' s' w' → VR E' x v → R (.panicked [{ v := v, recovered := false }]) w') : Leaves P fn a.tmps R a.defers u w := by
  unfold endC at hr
  split at hr
  · rename_i x s2 e
    refine leaves_ok hm hn hc (fun E' w' u' hs' hmo' _ => ?_) t.ds a.defers o u hs hG ht ht.ds hmo e
    obtain ⟨v, rfl, hv⟩ := hmo'
    exact h2 x s2 hr.symm v w' E' hs' hv
  · rename_i o2 s2 hne e
    split at hr
    · rename_i l hl
      refine leaves_ok hm hn hc (fun E' w' u' hs' hmo' ht' => ?_) t.ds a.defers o u hs hG ht ht.ds hmo e
      obtain ⟨v, hv, hrun⟩ := results_ok hs'.rel ht' hl
      cases o2 with
      | ret =>
        have : u' = .returning := hmo'
        subst this
        exact ⟨v, hrun, h1 _ s2 hr.symm v w' E' hs' hv⟩
      | panic x => exact absurd rfl (hne x)
      | normal => exact hmo'.elim
      | exit i => exact hmo'.elim
    · exact absurd hr.symm hf
  · exact absurd hr.symm hf
theorem bodyC_ok (hm : P.follows .mixedOrders = true) (hn : NoNG P) (hc : CFok P G callF) (n : Nat) (f : FuncId) (args : List AV) (s : St) (E : Env) (w : World) (vs : List Value) (h : Rel E s w) (hG : GlobOk E G w) (ha : VRL E args vs) :
    ResOk P E s w f vs (bodyC P G callF n P.funcs[f]? args s) := by
  generalize hr : bodyC P G callF n P.funcs[f]? args s = r
  by_cases hfail : r = .fail
  · subst hfail; trivial
  unfold bodyC at hr
  cases hfn : P.funcs[f]? with
  | none => rw [hfn] at hr; exact absurd hr.symm hfail
  | some fn =>
    cases hb : fn.body with
    | none => simp only [hfn, hb] at hr; exact absurd hr.symm hfail
    | some c =>
      simp only [hfn, hb] at hr
      rcases Bool.eq_false_or_eq_true (Nat.ble args.length fn.ntmps) with hl | hl
      rotate_left
      · rw [cond_of_false hl] at hr; exact absurd hr.symm hfail
      rw [cond_of_true hl] at hr
      have hle := Nat.le_of_ble_eq_true hl
      have hent : Enters P f := ⟨fn, hfn, by rw [hb]; rfl, hn f fn hfn⟩
      have main : ∀ (R : Ending → World → Prop), (∀ x s', r = .ret x s' → ∀ v w' E', Step E s w E' s' w' → VR E' x v → R (.returned v) w') →
          (∀ x s', r = .panic x s' → ∀ v w' E', Step E s w E' s' w' → VR E' x v → R (.panicked [{ v := v, recovered := false }]) w') → Calls P f ⟨vs⟩ w R := by
        intro R h1 h2
        refine calls_of_wp_defers hfn hb ?_
        unfold finC at hr
        split at hr
        · rename_i o t s1 e1
          refine (exec_ok hm hc n c).go h hG (enter_TR ha hle) e1 fun e a' w' E' hs hta ho => ?_
          split at hr
          · rw [ho.normal]
            exact endC_ok hm hn hc (o := .ret) (u := .returning) hs (hG.step h hs) hta rfl hr hfail h1 h2
          · have : e = .ret := by cases e <;> first | rfl | cases ho
            subst this
            exact endC_ok hm hn hc (o := .ret) (u := .returning) hs (hG.step h hs) hta rfl hr hfail h1 h2
          · cases e with
            | panic ch =>
              obtain ⟨v, hv, hvr⟩ := ho
              subst hv
              rename_i x2
              exact endC_ok hm hn hc (o := .panic x2) (u := .panicking [{ v := v, recovered := false }]) hs (hG.step h hs) hta ⟨v, rfl, hvr⟩ hr hfail h1 h2
            | _ => cases ho
          · exact absurd hr.symm hfail
        · exact absurd hr.symm hfail
      cases r with
      | fail => trivial
      | ret x s' =>
        refine .inl ⟨hent, main _ (fun x2 s2 e v w' E' hs hv => ?_) (fun x2 s2 e => by cases e)⟩
        cases e
        exact ⟨v, E', rfl, hs, hv⟩
      | panic x s' =>
        refine ⟨hent, main _ (fun x2 s2 e => by cases e) (fun x2 s2 e v w' E' hs hv => ?_)⟩
        cases e
        exact ⟨v, E', rfl, hs, hv⟩
def KnownOk (P : Program) (G : Glob) (X : Known) : Prop := ∀ (f : FuncId) (h : List AV → St → Res), X f = some h →
  ∀ (args : List AV) (s : St) (E : Env) (w : World) (vs : List Value), Rel E s w → GlobOk E G w → VRL E args vs → ResOk P E s w f vs (h args s)
theorem callN_ok (hm : P.follows .mixedOrders = true) (hn : NoNG P) {X : Known} (hX : KnownOk P G X) (loops : Nat) : ∀ n, CFok P G (callN P G X loops n)
  | 0 => fun _ _ _ _ _ _ _ _ _ => trivial
  | n + 1 => fun f args s E w vs h hG ha => by
    simp only [callN]
    cases hx : X f with
    | none => exact bodyC_ok hm hn (callN_ok hm hn hX loops n) loops f args s E w vs h hG ha
    | some k => exact hX f k hx args s E w vs h hG ha
end
end Go.Am
end
section
namespace Go.Am
mutual
def AV.plain : AV → Bool
  | .ptr _ _ | .sl _ _ _ _ _ | .mp (some _) | .hptr _ => false
  | .ptrL l _ | .lst l _ _ _ | .agg l | .tup l => AV.plains l
  | .fn _ a b => AV.plains a && AV.plains b
  | .ifc _ v => AV.plain v
  | _ => true
def AV.plains : List AV → Bool
  | [] => true
  | a :: l => AV.plain a && AV.plains l
end
mutual
theorem VR.plain {E E1 : Env} (hz : ∀ b o v, E1.z b o = some v → E.z b o = some v) : ∀ {a : AV} {v : Value}, VR E1 a v → a.plain = true → VR E a v
  | _, _, .int k n, _ => .int k n
  | _, _, .bool b, _ => .bool b
  | _, _, .str s, _ => .str s
  | _, _, .nilp, _ => .nilp
  | _, _, .ptr _ _, p => by simp [AV.plain] at p
  | _, _, .ptrL off h k, p => .ptrL off (VRL.plain hz h (by simpa [AV.plain] using p)) (fun i v e => hz _ _ _ (k i v e))
  | _, _, .sl _ _ _ _ _, p => by simp [AV.plain] at p
  | _, _, .lst h hl ht hn hc k, p => .lst (VRL.plain hz h (by simpa [AV.plain] using p)) hl ht hn hc (fun hv => let ⟨b, base, ea, hb⟩ := k hv; ⟨b, base, ea, fun i v e => hz _ _ _ (hb i v e)⟩)
  | _, _, .mpn, _ => .mpn
  | _, _, .mp _, p => by simp [AV.plain] at p
  | _, _, .hp _, p => by simp [AV.plain] at p
  | _, _, .fn a b, p => by
    simp [AV.plain] at p
    exact .fn (VRL.plain hz a p.1) (VRL.plain hz b p.2)
  | _, _, .nilfn, _ => .nilfn
  | _, _, .ifc h, p => .ifc (VR.plain hz h (by simpa [AV.plain] using p))
  | _, _, .nilifc, _ => .nilifc
  | _, _, .agg h, p => .agg (VRL.plain hz h (by simpa [AV.plain] using p))
  | _, _, .tup h, p => .tup (VRL.plain hz h (by simpa [AV.plain] using p))
  | _, _, .lit v h, _ => .lit v h
  | _, _, .undef v, _ => .undef v
theorem VRL.plain {E E1 : Env} (hz : ∀ b o v, E1.z b o = some v → E.z b o = some v) : ∀ {l : List AV} {r : List Value}, VRL E1 l r → AV.plains l = true → VRL E l r
  | _, _, .nil, _ => .nil
  | _, _, .cons h t, p => by
    simp [AV.plains] at p
    exact .cons (VR.plain hz h p.1) (VRL.plain hz t p.2)
end
def pureX (F : List AV → Option AV) : List AV → St → Res := fun args s => match F args with | some x => .ret x s | none => .fail
end Go.Am
end
section
namespace Go.Am
end Go.Am
end
section
namespace Go.Am
def sameX : List AV → St → Res := fun args s => match args with | [x] => .ret x s | _ => .fail
theorem same_known {P : Program} {G : Glob} {f : FuncId} (hrun : ∀ (x : Value) (w : World), (callFunc f #[x]).run P w = .ok (.value x) w) :
    ∀ (args : List AV) (s : St) (E : Env) (w : World) (vs : List Value), Rel E s w → GlobOk E G w → VRL E args vs → ResOk P E s w f vs (sameX args s) := by
  intro args s E w vs h _ ha
  cases ha with
  | nil => trivial
  | cons h1 h2 =>
    cases h2 with
    | nil => exact .inr ⟨_, w, E, hrun _ w, .refl h, h1⟩
    | cons _ _ => trivial
end Go.Am
end
section
namespace Go.Am
mutual
def AV.under (nb : Nat) : AV → Bool
  | .ptr r _ | .sl r _ _ _ _ | .mp (some r) | .hptr r => Nat.blt r nb
  | .ptrL l _ | .lst l _ _ _ | .agg l | .tup l => AV.unders nb l
  | .fn _ a b => AV.unders nb a && AV.unders nb b
  | .ifc _ v => AV.under nb v
  | _ => true
def AV.unders (nb : Nat) : List AV → Bool
  | [] => true
  | a :: l => AV.under nb a && AV.unders nb l
end
mutual
theorem VR.under {E E1 : Env} {nb : Nat} (hl : ∀ r, r < nb → E.loc r = E1.loc r) (hh : ∀ r, r < nb → E.hb r = E1.hb r) (hz : E.z = E1.z) (hb : E.bsz = E1.bsz) : ∀ {a : AV} {v : Value}, VR E1 a v → AV.under nb a = true → VR E a v
  | _, _, .int k n, _ => .int k n
  | _, _, .bool b, _ => .bool b
  | _, _, .str s, _ => .str s
  | _, _, .nilp, _ => .nilp
  | _, _, .ptr off h, p => .ptr off (by rw [hl _ (Nat.le_of_ble_eq_true p)]; exact h)
  | _, _, .ptrL off h k, p => .ptrL off (VRL.under hl hh hz hb h (by simpa [AV.under] using p)) (by rw [hz]; exact k)
  | _, _, .sl h h1 h2 h3 h4, p => .sl (by rw [hl _ (Nat.le_of_ble_eq_true p)]; exact h) h1 h2 (by rw [hb]; exact h3) h4
  | _, _, .lst h h1 h2 h3 h4 k, p => .lst (VRL.under hl hh hz hb h (by simpa [AV.under] using p)) h1 h2 h3 h4 (by rw [hz]; exact k)
  | _, _, .mpn, _ => .mpn
  | _, _, .mp h, p => .mp (by rw [hl _ (Nat.le_of_ble_eq_true p)]; exact h)
  | _, _, .hp h, p => .hp (by rw [hh _ (Nat.le_of_ble_eq_true p)]; exact h)
  | _, _, .fn a b, p => by
    simp [AV.under] at p
    exact .fn (VRL.under hl hh hz hb a p.1) (VRL.under hl hh hz hb b p.2)
  | _, _, .nilfn, _ => .nilfn
  | _, _, .ifc h, p => .ifc (VR.under hl hh hz hb h (by simpa [AV.under] using p))
  | _, _, .nilifc, _ => .nilifc
  | _, _, .agg h, p => .agg (VRL.under hl hh hz hb h (by simpa [AV.under] using p))
  | _, _, .tup h, p => .tup (VRL.under hl hh hz hb h (by simpa [AV.under] using p))
  | _, _, .lit v h, _ => .lit v h
  | _, _, .undef v, _ => .undef v
theorem VRL.under {E E1 : Env} {nb : Nat} (hl : ∀ r, r < nb → E.loc r = E1.loc r) (hh : ∀ r, r < nb → E.hb r = E1.hb r) (hz : E.z = E1.z) (hb : E.bsz = E1.bsz) : ∀ {l : List AV} {r : List Value}, VRL E1 l r → AV.unders nb l = true → VRL E l r
  | _, _, .nil, _ => .nil
  | _, _, .cons h t, p => by
    simp [AV.unders] at p
    exact .cons (VR.under hl hh hz hb h p.1) (VRL.under hl hh hz hb t p.2)
end
/-! ## The state that is left -/
def lowH (s : St) : Nat → Tr AObj
  | 0 => .nil
  | n + 1 => match s.get n with | some o => (lowH s n).set n o | none => lowH s n
def addH : List Row → Nat → Tr AObj → Tr AObj
  | [], _, h => h
  | o :: l, n, h => addH l (n + 1) (h.set n (.row o))
theorem lowH_get (s : St) (r : Nat) : ∀ n, (lowH s n).get r = if r < n then s.get r else none
  | 0 => by simp [lowH, Tr.get, Tr.getP_nil]
  | n + 1 => by
    have ih := lowH_get s r n
    simp only [lowH]
    cases e : s.get n with
    | none =>
      rw [ih]
      by_cases h : r < n
      · rw [if_pos h, if_pos (by omega)]
      · rw [if_neg h]
        by_cases h2 : r < n + 1
        · have : r = n := by omega
          subst this; rw [if_pos h2, e]
        · rw [if_neg h2]
    | some o =>
      simp only
      rw [Tr.get_set, ih]
      by_cases h : n = r
      · subst h; rw [if_pos rfl, if_pos (by omega), e]
      · rw [if_neg h]
        by_cases h2 : r < n
        · rw [if_pos h2, if_pos (by omega)]
        · rw [if_neg h2, if_neg (by omega)]
theorem addH_get (r : Nat) : ∀ (l : List Row) (n : Nat) (h : Tr AObj), (addH l n h).get r = if n ≤ r ∧ r < n + l.length then (l[r - n]?).map AObj.row else h.get r
  | [], n, h => by simp only [addH, List.length_nil]; rw [if_neg (by omega)]
  | o :: l, n, h => by
    simp only [addH]
    rw [addH_get r l (n + 1), Tr.get_set]
    simp only [List.length_cons]
    by_cases h1 : n = r
    · subst h1
      rw [if_neg (by omega), if_pos rfl, if_pos (by omega)]
      simp
    · rw [if_neg h1]
      by_cases h2 : n + 1 ≤ r ∧ r < n + 1 + l.length
      · rw [if_pos h2, if_pos (by omega)]
        rw [show r - n = (r - (n + 1)) + 1 by omega]
        simp
      · rw [if_neg h2]
        by_cases h3 : n ≤ r ∧ r < n + (l.length + 1)
        · omega
        · rw [if_neg h3]
structure KItem where
  r : Nat
  off : Nat
  o : Row
  cs : List AV
def KItem.row (it : KItem) (n : Nat) : Row := { vals := it.cs, root := n, pos := 1, ep := 0, fep := 0, ext := 1 + it.cs.length, solo := true, ty := it.o.ty }
def rowsK : List KItem → Nat → List Row
  | [], _ => []
  | it :: l, n => it.row n :: rowsK l (n + 1)
theorem rowsK_len : ∀ (l : List KItem) (n : Nat), (rowsK l n).length = l.length
  | [], _ => rfl
  | _ :: l, n => by simp [rowsK, rowsK_len l]
theorem rowsK_get : ∀ (l : List KItem) (n i : Nat), (rowsK l n)[i]? = (l[i]?).map fun it => it.row (n + i)
  | [], _, _ => by simp [rowsK]
  | it :: l, n, 0 => by simp [rowsK]
  | it :: l, n, i + 1 => by simp only [rowsK, List.getElem?_cons_succ]; rw [rowsK_get l (n + 1) i, show n + 1 + i = n + (i + 1) by omega]
def packS (s : St) (nb : Nat) (is : List KItem) : St := ⟨nb + is.length, addH (rowsK is nb) nb (lowH s nb)⟩
theorem pack_get (s : St) (nb : Nat) (is : List KItem) (r : Nat) : (packS s nb is).get r = if r < nb then s.get r else (is[r - nb]?).map fun it => .row (it.row r) := by
  unfold packS St.get
  simp only
  rw [addH_get, rowsK_len, lowH_get]
  by_cases h : r < nb
  · rw [if_neg (by omega), if_pos h, if_pos h]
    rfl
  · rw [if_neg h, if_neg h]
    by_cases h2 : nb ≤ r ∧ r < nb + is.length
    · rw [if_pos h2, rowsK_get, show nb + (r - nb) = r by omega]
      cases is[r - nb]? <;> rfl
    · rw [if_neg h2, List.getElem?_eq_none (by omega)]
      rfl
structure KeptOk (s : St) (nb : Nat) (is : List KItem) : Prop where
  at_ : ∀ it ∈ is, rowAt s it.r = some it.o ∧ nb ≤ it.o.root ∧ it.cs = (it.o.vals.drop it.off).take it.cs.length ∧ it.off + it.cs.length ≤ it.o.vals.length ∧ AV.plains it.cs = true
  apart : ∀ (i j : Nat) (a b : KItem), is[i]? = some a → is[j]? = some b → a.o.root = b.o.root → i = j
def LowOk (s : St) (nb : Nat) : Prop :=
  (∀ r o, r < nb → s.get r = some (.row o) → AV.unders nb o.vals = true) ∧ ∀ r es, r < nb → s.get r = some (.mapo es) → AV.unders nb (es.map (·.1)) = true ∧ AV.unders nb (es.map (·.2)) = true
def Env.pack (E : Env) (nb : Nat) (is : List KItem) : Env :=
  { E with
    loc := fun r => if r < nb then E.loc r else match is[r - nb]? with | some it => (E.loc it.r).map fun p => (p.1, p.2 + it.off) | Option.none => .none
    hb := fun n => if n < nb then E.hb n else .none
    own := fun n c => n < nb ∧ E.own n c }
section
variable {E : Env} {s : St} {w : World} {nb : Nat} {is : List KItem}
theorem pack_low {r : Nat} (h : r < nb) : (E.pack nb is).loc r = E.loc r := if_pos h
theorem pack_loc {r b base : Nat} (h : (E.pack nb is).loc r = some (b, base)) : (r < nb ∧ E.loc r = some (b, base)) ∨ (nb ≤ r ∧ ∃ it base0, is[r - nb]? = some it ∧ E.loc it.r = some (b, base0) ∧ base = base0 + it.off) := by
  simp only [Env.pack] at h
  by_cases hr : r < nb
  · rw [if_pos hr] at h; exact .inl ⟨hr, h⟩
  · rw [if_neg hr] at h
    split at h
    · rename_i it hit
      cases he : E.loc it.r with
      | none => rw [he] at h; cases h
      | some p =>
        rw [he] at h
        cases h
        exact .inr ⟨by omega, it, p.2, hit, by rw [he], rfl⟩
    · cases h
theorem Rel.pack (h : Rel E s w) (hk : KeptOk s nb is) (hl : LowOk s nb) : Rel (E.pack nb is) (packS s nb is) w := by
  have hmem : ∀ {i : Nat} {it : KItem}, is[i]? = some it → it ∈ is := fun e => List.mem_of_getElem? e
  have tr : ∀ {l : List AV} {vs : List Value}, VRL E l vs → AV.unders nb l = true → VRL (E.pack nb is) l vs := fun hv hu => VRL.under (fun r hr => pack_low hr) (fun r hr => if_pos hr) rfl rfl hv hu
  have low : ∀ r, r < nb → (packS s nb is).get r = s.get r := fun r hr => by rw [pack_get, if_pos hr]
  have new : ∀ r o, nb ≤ r → (packS s nb is).get r = some o → ∃ it, is[r - nb]? = some it ∧ o = .row (it.row r) := fun r o hr e => by
    rw [pack_get, if_neg (by omega)] at e
    cases hi : is[r - nb]? with
    | none => rw [hi] at e; cases e
    | some it => rw [hi] at e; cases e; exact ⟨it, rfl, rfl⟩
  have rootlt : ∀ r o, r < nb → s.get r = some (.row o) → o.root < nb := fun r o hr e => Nat.lt_of_le_of_lt (h.wf.rle r o e) hr
  have hval : ∀ r o, r < nb → s.get r = some (.row o) → valid (packS s nb is) o = valid s o := fun r o hr e => valid_congr (low _ (rootlt r o hr e))
  have root_of : ∀ r o b base1 it base2, r < nb → s.get r = some (.row o) → E.loc r = some (b, base1) → it ∈ is → E.loc it.r = some (b, base2) → False := fun r o b base1 it base2 hr e e1 hit e2 => by
    obtain ⟨q1, q2, _⟩ := hk.at_ it hit
    obtain ⟨q3, _⟩ := rowAt_eq q1
    have hlt := rootlt r o hr e
    rcases h.coh r it.r b base1 base2 e1 e2 with h1 | ⟨o1, o2, k1, k2, k3, _⟩
    · rw [h1, q3] at e; cases e; omega
    · rw [e] at k1; cases k1
      rw [q3] at k2; cases k2
      omega
  refine ⟨⟨fun r hr => ?_, fun r o e => ?_, fun r o e hs => ?_, fun r o e => ?_⟩, fun r b base e => ?_, fun r p e => ?_, h.z, fun b o v r base e el => ?_, fun r o b base e el => ?_, fun r es b base e el => ?_, fun r x n b base e el => ?_,
    fun r1 r2 b b1 b2 e1 e2 => ?_, fun r o b base e el hq hp => ?_, fun n d b e eb w1 hw => ?_, fun n c hc => ?_, fun n b eb => ?_⟩
  · have hr : nb + is.length ≤ r := hr
    rw [pack_get, if_neg (by omega), List.getElem?_eq_none (by omega)]; rfl
  · by_cases hr : r < nb
    · rw [low r hr] at e
      obtain ⟨q, g1, g2, g3, g4⟩ := h.wf.root r o e
      exact ⟨q, by rw [low _ (rootlt r o hr e)]; exact g1, g2, g3, fun hv => g4 (by rw [← hval r o hr e]; exact hv)⟩
    · obtain ⟨it, h1, h2⟩ := new r _ (by omega) e
      cases h2
      refine ⟨it.row r, ?_, rfl, Nat.le_refl _, fun _ => Nat.le_refl _⟩
      show (packS s nb is).get r = _
      rw [pack_get, if_neg hr, h1]; rfl
  · by_cases hr : r < nb
    · rw [low r hr] at e
      obtain ⟨k1, k2⟩ := h.wf.solo r o e hs
      refine ⟨k1, fun r2 o2 e2 h2 => ?_⟩
      by_cases hr2 : r2 < nb
      · rw [low r2 hr2] at e2; exact k2 r2 o2 e2 h2
      · obtain ⟨it, _, h4⟩ := new r2 _ (by omega) e2
        cases h4
        exact h2
    · obtain ⟨it, h1, h2⟩ := new r _ (by omega) e
      cases h2
      refine ⟨rfl, fun r2 o2 e2 h3 => ?_⟩
      by_cases hr2 : r2 < nb
      · rw [low r2 hr2] at e2
        have := rootlt r2 o2 hr2 e2
        omega
      · obtain ⟨it2, _, h4⟩ := new r2 _ (by omega) e2
        cases h4
        exact h3
  · by_cases hr : r < nb
    · rw [low r hr] at e; exact h.wf.rle r o e
    · obtain ⟨it, h1, h2⟩ := new r _ (by omega) e
      cases h2
      exact Nat.le_refl _
  · rcases pack_loc e with ⟨h1, h2⟩ | ⟨h1, it, base0, h2, h3, _⟩
    · exact ⟨by show r < nb + is.length; omega, (h.lt r b base h2).2⟩
    · refine ⟨?_, (h.lt it.r b base0 h3).2⟩
      show r < nb + is.length
      rcases Nat.lt_or_ge (r - nb) is.length with h4 | h4
      · omega
      · rw [List.getElem?_eq_none h4] at h2; cases h2
  · obtain ⟨b, base⟩ := p
    rcases pack_loc e with ⟨h1, h2⟩ | ⟨h1, it, base0, h2, h3, _⟩
    · rw [low r h1]; exact h.obj r _ h2
    · exact ⟨_, by rw [pack_get, if_neg (by omega), h2]; rfl⟩
  · rcases pack_loc el with ⟨h1, h2⟩ | ⟨h1, it, base0, h2, h3, _⟩
    · exact h.zap b o v r base e h2
    · exact h.zap b o v it.r base0 e h3
  · rcases pack_loc el with ⟨h1, h2⟩ | ⟨h1, it, base0, h2, h3, h4⟩
    · rw [low r h1] at e
      obtain ⟨c, ty, fz, g1, g2, g3, g4⟩ := h.row r o b base e h2
      refine ⟨c, ty, fz, g1, g2, g3, fun hv => ?_⟩
      obtain ⟨hz, vs, k1, k2⟩ := g4 (by rw [← hval r o h1 e]; exact hv)
      exact ⟨hz, vs, tr k1 (hl.1 r o h1 e), k2⟩
    · obtain ⟨it2, h5, h6⟩ := new r _ h1 e
      rw [h2] at h5; cases h5
      cases h6
      obtain ⟨q1, q2, q3, q4, q5⟩ := hk.at_ it (hmem h2)
      obtain ⟨p1, p2⟩ := rowAt_eq q1
      obtain ⟨c, ty, fz, g1, g2, g3, g4⟩ := h.row it.r it.o b base0 p1 h3
      obtain ⟨⟨z1, z2⟩, vs, k1, k2⟩ := g4 p2
      refine ⟨c, ty, fz, g1, g2, by show base + it.cs.length ≤ c.size; omega, fun _ => ⟨⟨z1, z2⟩, (vs.drop it.off).take it.cs.length, ?_, fun i v hi => ?_⟩⟩
      · show VRL _ it.cs _
        have hv : VRL E it.cs ((vs.drop it.off).take it.cs.length) := by
          have k3 := (k1.drop it.off).take it.cs.length
          rw [← q3] at k3
          exact k3
        exact VRL.plain (E := E.pack nb is) (E1 := E) (fun _ _ _ e => e) hv q5
      · rw [List.getElem?_take] at hi
        split at hi
        · rw [List.getElem?_drop] at hi
          have := k2 _ v hi
          rw [h4, show base0 + it.off + i = base0 + (it.off + i) by omega]; exact this
        · cases hi
  · rcases pack_loc el with ⟨h1, h2⟩ | ⟨h1, it, base0, h2, h3, h4⟩
    · rw [low r h1] at e
      obtain ⟨ents, clock, g1, g2, g3⟩ := h.mapo r es b base e h2
      obtain ⟨u1, u2⟩ := hl.2 r es h1 e
      exact ⟨ents, clock, g1, tr g2 u1, tr g3 u2⟩
    · obtain ⟨it2, _, h6⟩ := new r _ h1 e; cases h6
  · rcases pack_loc el with ⟨h1, h2⟩ | ⟨h1, it, base0, h2, h3, h4⟩
    · rw [low r h1] at e; exact h.iter r x n b base e h2
    · obtain ⟨it2, _, h6⟩ := new r _ h1 e; cases h6
  · rcases pack_loc e1 with ⟨h1, h2⟩ | ⟨h1, it1, base1, h2, h3, h4⟩ <;> rcases pack_loc e2 with ⟨k1, k2⟩ | ⟨k1, it2, base2, k2, k3, k4⟩
    · rcases h.coh r1 r2 b b1 b2 h2 k2 with m1 | ⟨o1, o2, m1, m2, m3, m4⟩
      · exact .inl m1
      · exact .inr ⟨o1, o2, by rw [low r1 h1]; exact m1, by rw [low r2 k1]; exact m2, m3, m4⟩
    · obtain ⟨x, hx⟩ := h.obj r1 _ h2
      obtain ⟨q1, q2, _⟩ := hk.at_ it2 (hmem k2)
      obtain ⟨q3, _⟩ := rowAt_eq q1
      rcases h.coh r1 it2.r b b1 base2 h2 k3 with m1 | ⟨o1, o2, m1, m2, m3, m4⟩
      · have := h.wf.rle it2.r it2.o q3; omega
      · exact (root_of r1 o1 b b1 it2 base2 h1 m1 h2 (hmem k2) k3).elim
    · obtain ⟨q1, q2, _⟩ := hk.at_ it1 (hmem h2)
      obtain ⟨q3, _⟩ := rowAt_eq q1
      rcases h.coh it1.r r2 b base1 b2 h3 k2 with m1 | ⟨o1, o2, m1, m2, m3, m4⟩
      · have := h.wf.rle it1.r it1.o q3; omega
      · exact (root_of r2 o2 b b2 it1 base1 k1 m2 k2 (hmem h2) h3).elim
    · obtain ⟨q1, q2, _⟩ := hk.at_ it1 (hmem h2)
      obtain ⟨q3, _⟩ := rowAt_eq q1
      obtain ⟨p1, p2, _⟩ := hk.at_ it2 (hmem k2)
      obtain ⟨p3, _⟩ := rowAt_eq p1
      have hroot : it1.o.root = it2.o.root := by
        rcases h.coh it1.r it2.r b base1 base2 h3 k3 with m1 | ⟨o1, o2, m1, m2, m3, m4⟩
        · rw [m1, p3] at q3
          simp only [Option.some.injEq, AObj.row.injEq] at q3
          rw [q3]
        · rw [q3] at m1; cases m1
          rw [p3] at m2; cases m2
          exact m3
      have := hk.apart _ _ _ _ h2 k2 hroot
      exact .inl (by omega)
  · rcases pack_loc el with ⟨h1, h2⟩ | ⟨h1, it, base0, h2, h3, h4⟩
    · rw [low r h1] at e; exact h.b0 r o b base e h2 hq hp
    · obtain ⟨it2, _, h6⟩ := new r _ h1 e
      cases h6
      cases hp
  · have eb : (if n < nb then E.hb n else none) = some b := eb
    by_cases hlt : n < nb
    · rw [if_pos hlt] at eb
      rw [low n hlt] at e
      have e2 : (E.pack nb is).own n = E.own n := by funext c; exact propext ⟨fun x => x.2, fun x => ⟨hlt, x⟩⟩
      rw [e2] at hw ⊢
      exact h.hid n d b e eb w1 hw
    · rw [if_neg hlt] at eb; cases eb
  · obtain ⟨o1, o2, o3, o4⟩ := h.own n c hc.2
    refine ⟨o1, fun r base el => ?_, o3, fun m hm => o4 m hm.2⟩
    rcases pack_loc el with ⟨h1, h2⟩ | ⟨h1, it, base0, h2, h3, h4⟩
    · exact o2 r base h2
    · exact o2 it.r base0 h3
  · have eb : (if n < nb then E.hb n else none) = some b := eb
    by_cases hlt : n < nb
    · rw [if_pos hlt] at eb
      exact ⟨by show n < nb + is.length; omega, by rw [low n hlt]; exact (h.hlt n b eb).2⟩
    · rw [if_neg hlt] at eb; cases eb
theorem Step.packG {E0 : Env} {s0 : St} {w0 : World} (h0 : Rel E0 s0 w0) (h : Step E0 s0 w0 E s w) (hnb : s0.next ≤ nb) (hk : KeptOk s nb is) (hl : LowOk s nb) : Step E0 s0 w0 (E.pack nb is) (packS s nb is) w := by
  have low : ∀ r, r < nb → (packS s nb is).get r = s.get r := fun r hr => by rw [pack_get, if_pos hr]
  refine ⟨⟨fun r p e => ?_, h.le.z, fun r b base e => h.le.bsz r b base e, fun n b e => ?_, h.le.H⟩, fun r hr => ?_, fun r b base e => ?_, h.rel.pack hk hl, fun r hr hn hs hd => ?_, by show s0.next ≤ nb + is.length; omega, h.fr, h.os, h.tape, h.output, h.size, fun n c hc => h.owns n c hc.2, fun n d e => ?_, ?_⟩
  · rw [pack_low (Nat.lt_of_lt_of_le (h0.lt r p.1 p.2 e).1 hnb)]; exact h.le.loc r p e
  · show (if n < nb then E.hb n else none) = some b
    rw [if_pos (Nat.lt_of_lt_of_le (h0.hlt n b e).1 hnb)]; exact h.le.hb n b e
  · rw [pack_low (Nat.lt_of_lt_of_le hr hnb)]; exact h.old r hr
  · rcases pack_loc e with ⟨h1, h2⟩ | ⟨h1, it, base0, h2, h3, _⟩
    · exact h.new r b base h2
    · exact h.new it.r b base0 h3
  · rw [low r (Nat.lt_of_lt_of_le hr hnb)]; exact h.un r hr hn hs hd
  · rw [low n (Nat.lt_of_lt_of_le (h0.wf.lt e) hnb)]; exact h.hids n d e
  · exact h.zn
theorem Step.pack {E0 : Env} {s0 : St} {w0 : World} (h0 : Rel E0 s0 w0) (h : Step E0 s0 w0 E s w) (hk : KeptOk s s0.next is) (hl : LowOk s s0.next) : Step E0 s0 w0 (E.pack s0.next is) (packS s s0.next is) w := Step.packG h0 h (Nat.le_refl _) hk hl
end
end Go.Am
end
section
namespace Go.Am
def consV (v : AV) (x : Option (List KItem × List AV)) : Option (List KItem × List AV) := match x with | some (is, vs) => some (is, v :: vs) | none => none
def cutX (len es off : Nat) (vals : List AV) : Option (List AV) := bif Nat.beq len 0 then (bif Nat.ble off vals.length then some (vals.drop off) else none) else cutN (len * es) off vals
theorem cutX_eq {len es off : Nat} {vals cs : List AV} (h : cutX len es off vals = some cs) (h0 : 0 < cs.length) : cs = (vals.drop off).take cs.length ∧ off + cs.length ≤ vals.length := by
  unfold cutX at h
  rcases Bool.eq_false_or_eq_true (Nat.beq len 0) with hb | hb
  · rw [cond_of_true hb] at h
    rcases Bool.eq_false_or_eq_true (Nat.ble off vals.length) with hc | hc
    · rw [cond_of_true hc] at h
      cases h
      have := Nat.le_of_ble_eq_true hc
      refine ⟨by rw [List.take_length], ?_⟩
      rw [List.length_drop]; omega
    · rw [cond_of_false hc] at h; cases h
  · rw [cond_of_false hb] at h
    obtain ⟨c1, c2⟩ := takeN_eq h
    have hlen := cutN_len h
    simp only [List.length_drop] at c2
    exact ⟨by rw [hlen]; exact c1, by omega⟩
def keepI (nb : Nat) (s : St) : List Nat → Nat → List AV → Option (List KItem × List AV)
  | _, _, [] => some ([], [])
  | us, j, v :: l => match v with
    | .sl r off len es tight => bif Nat.blt r nb then consV (.sl r off len es tight) (keepI nb s us j l) else
        match rowAt s r with
        | some o => bif Nat.ble nb o.root && !hasN o.root us then
            match cutX len es off o.vals with
            | some cs => bif nonNil cs && AV.plains cs then
                match keepI nb s (o.root :: us) (j + 1) l with
                | some (is, vs) => some (⟨r, off, o, cs⟩ :: is, .sl (nb + j) 0 len es false :: vs)
                | none => none
              else none
            | none => none
          else none
        | none => none
    | v => bif AV.under nb v then consV v (keepI nb s us j l) else none
def lowOkB (s : St) (nb : Nat) : Nat → Bool
  | 0 => true
  | n + 1 => (match s.get n with
    | some (.row o) => AV.unders nb o.vals
    | some (.mapo es) => AV.unders nb (es.map (·.1)) && AV.unders nb (es.map (·.2))
    | _ => true) && lowOkB s nb n
def getTr' (p : List Bool) (tr : Tr AV) : AV := match tr.getP p with | some v => v | none => .undef
theorem memN {d : Nat} : ∀ {l : List Nat}, d ∈ l → hasN d l = true
  | x :: l, h => by
    simp only [hasN]
    rcases Bool.eq_false_or_eq_true (x.beq d) with hb | hb
    · rw [cond_of_true hb]
    · rw [cond_of_false hb]
      rcases List.mem_cons.1 h with rfl | h
      · simp at hb
      · exact memN h
def slotsT : List Nat → List AV → Tr AV → Tr AV
  | i :: ls, v :: vs, tr => slotsT ls vs (tr.setP v (pathOf i))
  | _, _, tr => tr
def valsT (t : T) : List Nat → List AV
  | [] => []
  | i :: l => getT (pathOf i) t :: valsT t l
def packC (nb : Nat) (ls : List Nat) (t : T) (s : St) : Option (T × St) :=
  match t.ds with
  | [] => match keepI nb s [] 0 (valsT t ls) with
    | some (is, vs) => bif lowOkB s nb nb then some (⟨slotsT ls vs .nil, t.n, [], t.rc⟩, packS s nb is) else none
    | none => none
  | _ => none
section
variable {E : Env} {s : St} {nb : Nat}
def KeepSpec (E : Env) (s : St) (nb : Nat) (us : List Nat) (j : Nat) (l : List AV) (is : List KItem) (vs : List AV) : Prop :=
    (∀ it ∈ is, rowAt s it.r = some it.o ∧ nb ≤ it.o.root ∧ it.o.root ∉ us ∧ it.cs = (it.o.vals.drop it.off).take it.cs.length ∧ it.off + it.cs.length ≤ it.o.vals.length ∧ AV.plains it.cs = true) ∧
    (∀ (i k : Nat) (a b : KItem), is[i]? = some a → is[k]? = some b → a.o.root = b.o.root → i = k) ∧
    ∀ {E' : Env}, (∀ r, r < nb → E'.loc r = E.loc r) → (∀ r, r < nb → E'.hb r = E.hb r) → E'.z = E.z → E'.bsz = E.bsz →
      (∀ (i : Nat) (it : KItem), is[i]? = some it → ∀ b base, E.loc it.r = some (b, base) → E'.loc (nb + (j + i)) = some (b, base + it.off)) → ∀ {xs : List Value}, VRL E l xs → VRL E' vs xs
theorem keepI_ok : ∀ {l : List AV} {us : List Nat} {j : Nat} {is : List KItem} {vs : List AV}, keepI nb s us j l = some (is, vs) → KeepSpec E s nb us j l is vs
  | [], us, j, is, vs, h => by
    simp only [keepI, Option.some.injEq, Prod.mk.injEq] at h
    obtain ⟨rfl, rfl⟩ := h
    exact ⟨fun it hit => by simp at hit, fun i k a b e => by simp at e, fun _ _ _ _ _ xs hv => by cases hv; exact .nil⟩
  | v :: l, us, j, is, vs, h => by
    have cons : ∀ {x : Option (List KItem × List AV)}, x = keepI nb s us j l → consV v x = some (is, vs) → AV.under nb v = true → KeepSpec E s nb us j (v :: l) is vs := fun {x} hx hc hu => by
      unfold consV at hc
      split at hc
      · rename_i is' vs'
        simp only [Option.some.injEq, Prod.mk.injEq] at hc
        obtain ⟨rfl, rfl⟩ := hc
        obtain ⟨h1, h2, h3⟩ := keepI_ok hx.symm
        exact ⟨h1, h2, fun a1 a2 a3 a4 a5 xs hv => by
          cases hv with
          | cons hv hvs => exact .cons (VR.under (nb := nb) a1 a2 a3 a4 hv hu) (h3 a1 a2 a3 a4 a5 hvs)⟩
      · cases hc
    unfold keepI at h
    split at h
    · rename_i r off len es tight
      rcases Bool.eq_false_or_eq_true (Nat.blt r nb) with hb | hb
      · rw [cond_of_true hb] at h
        exact cons rfl h hb
      · rw [cond_of_false hb] at h
        split at h
        · rename_i o ho
          rcases Bool.eq_false_or_eq_true (Nat.ble nb o.root && !hasN o.root us) with hc | hc
          · rw [cond_of_true hc] at h
            simp only [Bool.and_eq_true, Bool.not_eq_true'] at hc
            have hroot := Nat.le_of_ble_eq_true hc.1
            have hus : o.root ∉ us := fun hm => by
              have := hc.2
              rw [memN hm] at this; cases this
            split at h
            · rename_i cs hcs
              rcases Bool.eq_false_or_eq_true (nonNil cs && AV.plains cs) with hd | hd
              · rw [cond_of_true hd] at h
                rw [Bool.and_eq_true] at hd
                split at h
                · rename_i is' vs' hk
                  simp only [Option.some.injEq, Prod.mk.injEq] at h
                  obtain ⟨rfl, rfl⟩ := h
                  obtain ⟨h1, h2, h3⟩ := keepI_ok hk
                  have hpos : 0 < cs.length := by cases cs with | nil => cases hd.1 | cons _ _ => simp
                  obtain ⟨c1, c2⟩ := cutX_eq hcs hpos
                  refine ⟨fun it hit => ?_, fun i k a b ei ek er => ?_, fun {E'} a1 a2 a3 a4 a5 xs hv => ?_⟩
                  · rcases List.mem_cons.1 hit with rfl | hit
                    · exact ⟨ho, hroot, hus, c1, c2, hd.2⟩
                    · obtain ⟨q1, q2, q3, q4⟩ := h1 it hit
                      exact ⟨q1, q2, fun hm => q3 (by simp [hm]), q4⟩
                  · cases i with
                    | zero =>
                      cases k with
                      | zero => rfl
                      | succ k =>
                        simp only [List.getElem?_cons_zero, Option.some.injEq] at ei
                        subst ei
                        have := (h1 b (List.mem_of_getElem? (by simpa using ek))).2.2.1
                        exact absurd (by rw [← er]; simp) this
                    | succ i =>
                      cases k with
                      | zero =>
                        simp only [List.getElem?_cons_zero, Option.some.injEq] at ek
                        subst ek
                        have := (h1 a (List.mem_of_getElem? (by simpa using ei))).2.2.1
                        exact absurd (by rw [er]; simp) this
                      | succ k => rw [h2 i k a b (by simpa using ei) (by simpa using ek) er]
                  · cases hv with
                    | cons hv hvs =>
                      refine .cons ?_ (h3 a1 a2 a3 a4 (fun i it hi b base hl => ?_) hvs)
                      · cases hv with
                        | sl hloc hle ht ha hsome =>
                          rename_i b base cap a
                          have hn := a5 0 ⟨r, off, o, cs⟩ rfl b base hloc
                          refine .sl (base := base + off) (by simpa using hn) hle (fun e => by cases e) (fun hcap => ?_) hsome
                          obtain ⟨e1, e2⟩ := ha hcap
                          exact ⟨by simpa using e1, by rw [a4]; omega⟩
                      · rw [show nb + (j + 1 + i) = nb + (j + (i + 1)) by omega]
                        exact a5 (i + 1) it (by simpa using hi) b base hl
                · cases h
              · rw [cond_of_false hd] at h; cases h
            · cases h
          · rw [cond_of_false hc] at h; cases h
        · cases h
    · rcases Bool.eq_false_or_eq_true (AV.under nb v) with hb | hb
      · rw [cond_of_true hb] at h
        exact cons rfl h hb
      · rw [cond_of_false hb] at h; cases h
theorem lowOkB_ok : ∀ {n : Nat}, lowOkB s nb n = true → ∀ r, r < n → (∀ o, s.get r = some (.row o) → AV.unders nb o.vals = true) ∧ ∀ es, s.get r = some (.mapo es) → AV.unders nb (es.map (·.1)) = true ∧ AV.unders nb (es.map (·.2)) = true
  | 0, _, r, hr => by omega
  | n + 1, h, r, hr => by
    simp only [lowOkB, Bool.and_eq_true] at h
    by_cases e : r = n
    · subst e
      refine ⟨fun o ho => ?_, fun es hes => ?_⟩
      · rw [ho] at h; exact h.1
      · rw [hes] at h
        simpa using h.1
    · exact lowOkB_ok h.2 r (by omega)
theorem slotsT_get (x : Nat) : ∀ (ls : List Nat) (vs : List AV) (tr : Tr AV), (slotsT ls vs tr).getP (pathOf x) = tr.getP (pathOf x) ∨ ∃ (i : Nat) (v : AV), ls[i]? = some x ∧ vs[i]? = some v ∧ (slotsT ls vs tr).getP (pathOf x) = some v
  | [], _, _ => .inl rfl
  | _ :: _, [], _ => .inl rfl
  | i :: ls, v :: vs, tr => by
    simp only [slotsT]
    rcases slotsT_get x ls vs (tr.setP v (pathOf i)) with h | ⟨k, u, h1, h2, h3⟩
    · by_cases e : i = x
      · subst e
        exact .inr ⟨0, v, rfl, rfl, by rw [h, Tr.getP_setP_same]⟩
      · rw [h, Tr.getP_setP_ne _ _ _ _ (fun e2 => e (pathOf_inj e2))]
        exact .inl rfl
    · exact .inr ⟨k + 1, u, by simpa using h1, by simpa using h2, h3⟩
theorem valsT_VRL {t : T} {a : Act} (h : TR E t a) : ∀ ls : List Nat, VRL E (valsT t ls) (ls.map fun i => a.tmps.getD i undef)
  | [] => .nil
  | i :: l => .cons (h.val i) (valsT_VRL h l)
theorem packC_ok {ls : List Nat} {t t' : T} {s' : St} {a : Act} (ht : TR E t a) (hp : packC nb ls t s = some (t', s')) :
    ∃ is, KeptOk s nb is ∧ LowOk s nb ∧ s' = packS s nb is ∧ TR (E.pack nb is) t' a := by
  unfold packC at hp
  split at hp
  · rename_i hds
    split at hp
    · rename_i is vs hk
      rcases Bool.eq_false_or_eq_true (lowOkB s nb nb) with hb | hb
      · rw [cond_of_true hb] at hp
        simp only [Option.some.injEq, Prod.mk.injEq] at hp
        obtain ⟨rfl, rfl⟩ := hp
        obtain ⟨h1, h2, h3⟩ := keepI_ok (E := E) hk
        have hlow := lowOkB_ok hb
        refine ⟨is, ⟨fun it hit => ?_, h2⟩, ⟨fun r o hr e => (hlow r hr).1 o e, fun r es hr e => (hlow r hr).2 es e⟩, rfl, ht.size, fun i => ?_, ?_⟩
        · obtain ⟨q1, q2, _, q4⟩ := h1 it hit
          exact ⟨q1, q2, q4⟩
        · have hv := h3 (E' := E.pack nb is) (fun r hr => pack_low hr) (fun r hr => if_pos hr) rfl rfl (fun i it hi b base hl => by
            show (if nb + (0 + i) < nb then _ else _) = _
            rw [if_neg (by omega), show nb + (0 + i) - nb = i by omega, hi]
            simp only
            rw [hl]; rfl) (valsT_VRL ht ls)
          have hg : getT (pathOf i) (⟨slotsT ls vs .nil, t.n, [], t.rc⟩ : T) = getTr' (pathOf i) (slotsT ls vs .nil) := rfl
          rw [hg]
          unfold getTr'
          rcases slotsT_get i ls vs .nil with h4 | ⟨k, v, h4, h5, h6⟩
          · rw [h4, Tr.getP_nil]; exact .undef _
          · rw [h6]
            obtain ⟨u, hu, hvu⟩ := hv.at_ h5
            rw [List.getElem?_map, h4] at hu
            cases hu
            exact hvu
        · have := ht.ds
          rw [hds] at this
          generalize hdd : a.defers = dd at this
          cases this
          exact .nil
      · rw [cond_of_false hb] at hp; cases hp
    · cases hp
  · cases hp
end
/-! ## One older row that leads to what was made since -/
theorem setRow_self {w : World} {b : Nat} {c : Array Value} {ty : TypeId} {fz : Nat × Nat} (h : w.heap[b]? = some (.cells c ty fz)) : w.setRow b c = w := by
  have e : (w.setRow b c).heap = w.heap := by
    apply Array.ext_getElem?
    intro i
    by_cases hi : i = b
    · subst hi; rw [setRow_heap w i c c ty fz h, h]
    · exact setRow_heap_ne w b i c hi
  have e2 : w.setRow b c = { w with heap := (w.setRow b c).heap } := rfl
  rw [e2, e]
theorem Rel.rerow {E : Env} {s : St} {w : World} (h : Rel E s w) {r : Nat} {o : Row} (hr : s.get r = some (.row o)) (hs : o.solo = true) {b base : Nat} (hl : E.loc r = some (b, base)) (vals : List AV) (hlen : vals.length = o.vals.length)
    (hv : ∀ vs, VRL E o.vals vs → (∀ i v, vs[i]? = some v → w.cell? ⟨b, base + i, none⟩ = some v) → VRL E vals vs) : Rel E (s.set r (.row { o with vals := vals })) w := by
  have st := stored_solo h.wf hr hs vals hlen
  obtain ⟨c, ty, fz, g1, g2, g3, g4⟩ := h.row r o b base hr hl
  obtain ⟨⟨rfl, hty⟩, vs, k1, k2⟩ := g4 (valid_solo hs)
  obtain ⟨hroot, hsolo⟩ := h.wf.solo r o hr hs
  have hcell : ∀ i v, vs[i]? = some v → w.cell? ⟨b, base + i, none⟩ = some v := fun i v e => by
    rw [World.cell?, g1]; exact k2 i v e
  have hb := h.block st.alike g1 ⟨r, base, hl⟩ c rfl (fun q o2 base2 e el hval => ?_) (fun q o2' b2 base2 e el hne hval => ?_)
  · rw [setRow_self g1] at hb; exact hb
  · by_cases hq : q = r
    · subst hq
      rw [St.get_set_same] at e
      cases e
      rw [hl] at el
      cases el
      exact ⟨hty, vs, hv vs k1 hcell, k2⟩
    · rw [St.get_set_ne s _ (fun e => hq e.symm)] at e
      rcases h.coh q r b base2 base el hl with h1 | ⟨o1, o3, m1, m2, m3, _⟩
      · exact absurd h1 hq
      · rw [e] at m1; cases m1
        rw [hr] at m2; cases m2
        exact absurd (hsolo q o2 e (m3.trans hroot)) hq
  · by_cases hq : q = r
    · subst hq
      rw [hl] at el; cases el
      exact absurd rfl hne
    · exact (st.others q o2' hq e hval).2
theorem Step.rerow {E0 E : Env} {s0 s : St} {w0 w : World} (h : Step E0 s0 w0 E s w) {r : Nat} {o : Row} (hr : s.get r = some (.row o)) (hs : o.solo = true) {b base : Nat} (hl : E.loc r = some (b, base)) (vals : List AV) (hlen : vals.length = o.vals.length)
    (hv : ∀ vs, VRL E o.vals vs → (∀ i v, vs[i]? = some v → w.cell? ⟨b, base + i, none⟩ = some v) → VRL E vals vs) : Step E0 s0 w0 E (s.set r (.row { o with vals := vals })) w := by
  refine ⟨h.le, h.old, h.new, h.rel.rerow hr hs hl vals hlen hv, fun q hq hn hs0 hd => ?_, h.next, h.fr, h.os, h.tape, h.output, h.size, h.owns, fun n d e => ?_, h.zn⟩
  · have hne : r ≠ q := fun e => by
      subst e
      rw [h.old r hq, hn] at hl; cases hl
    rw [St.get_set_ne s _ hne]
    exact h.un q hq hn hs0 hd
  · obtain ⟨d', e2⟩ := h.hids n d e
    have hne : r ≠ n := fun e3 => by subst e3; rw [hr] at e2; cases e2
    exact ⟨d', by rw [St.get_set_ne s _ hne]; exact e2⟩
def blanks (l : List AV) : List AV := l.map fun _ => .undef
theorem blanks_VRL {E : Env} : ∀ {l : List AV} {vs : List Value}, l.length = vs.length → VRL E (blanks l) vs
  | [], [], _ => .nil
  | _ :: l, v :: vs, h => .cons (.undef v) (blanks_VRL (by simpa using h))
theorem blanks_unders (nb : Nat) : ∀ l : List AV, AV.unders nb (blanks l) = true
  | [] => rfl
  | _ :: l => blanks_unders nb l
def lowOkR (s : St) (nb r : Nat) : Nat → Bool
  | 0 => true
  | n + 1 => (bif Nat.beq n r then true else match s.get n with
    | some (.row o) => AV.unders nb o.vals
    | some (.mapo es) => AV.unders nb (es.map (·.1)) && AV.unders nb (es.map (·.2))
    | _ => true) && lowOkR s nb r n
theorem lowOkR_ok {s : St} {nb q : Nat} : ∀ {n : Nat}, lowOkR s nb q n = true → ∀ r, r < n → r ≠ q → (∀ o, s.get r = some (.row o) → AV.unders nb o.vals = true) ∧ ∀ es, s.get r = some (.mapo es) → AV.unders nb (es.map (·.1)) = true ∧ AV.unders nb (es.map (·.2)) = true
  | 0, _, r, hr, _ => by omega
  | n + 1, h, r, hr, hq => by
    simp only [lowOkR, Bool.and_eq_true] at h
    by_cases e : r = n
    · subst e
      have hb : Nat.beq r q = false := beq_false_of_ne hq
      rw [hb] at h
      simp only [cond_false] at h
      refine ⟨fun o ho => ?_, fun es hes => ?_⟩
      · rw [ho] at h; exact h.1
      · rw [hes] at h
        simpa using h.1
    · exact lowOkR_ok h.2 r (by omega) hq
def rerowS (s : St) (nb r : Nat) (o : Row) (is : List KItem) (vals : List AV) : St := (packS (s.set r (.row { o with vals := blanks o.vals })) nb is).set r (.row { o with vals := vals })
def packRC (nb : Nat) (ls : List Nat) (p : Nat) (t : T) (s : St) : Option (T × St) :=
  match t.ds with
  | [] => match getT (pathOf p) t with
    | .ptr r _ => match s.get r with
      | some (.row o) => bif Nat.blt r nb && (o.solo && lowOkR s nb r nb) then match keepI nb s [] 0 (valsT t ls ++ o.vals) with
          | some (is, vs) => some (⟨slotsT ls vs .nil, t.n, [], t.rc⟩, rerowS s nb r o is (vs.drop ls.length))
          | none => none
        else none
      | _ => none
    | _ => none
  | _ => none
theorem keepI_len {nb : Nat} {s : St} : ∀ {l : List AV} {us : List Nat} {j : Nat} {is : List KItem} {vs : List AV}, keepI nb s us j l = some (is, vs) → vs.length = l.length
  | [], _, _, _, _, h => by simp only [keepI, Option.some.injEq, Prod.mk.injEq] at h; rw [← h.2]
  | v :: l, us, j, is, vs, h => by
    have cons : ∀ {x : Option (List KItem × List AV)}, x = keepI nb s us j l → consV v x = some (is, vs) → vs.length = (v :: l).length := fun {x} hx hc => by
      unfold consV at hc
      split at hc
      · simp only [Option.some.injEq, Prod.mk.injEq] at hc
        rw [← hc.2, List.length_cons, keepI_len hx.symm, List.length_cons]
      · cases hc
    unfold keepI at h
    split at h
    · rename_i r off len es tight
      rcases Bool.eq_false_or_eq_true (Nat.blt r nb) with hb | hb
      · rw [cond_of_true hb] at h; exact cons rfl h
      · rw [cond_of_false hb] at h
        split at h
        · rename_i o ho
          rcases Bool.eq_false_or_eq_true (Nat.ble nb o.root && !hasN o.root us) with hc | hc
          · rw [cond_of_true hc] at h
            split at h
            · rename_i cs hcs
              rcases Bool.eq_false_or_eq_true (nonNil cs && AV.plains cs) with hd | hd
              · rw [cond_of_true hd] at h
                split at h
                · rename_i hk
                  simp only [Option.some.injEq, Prod.mk.injEq] at h
                  rw [← h.2, List.length_cons, keepI_len hk, List.length_cons]
                · cases h
              · rw [cond_of_false hd] at h; cases h
            · cases h
          · rw [cond_of_false hc] at h; cases h
        · cases h
    · rcases Bool.eq_false_or_eq_true (AV.under nb v) with hb | hb
      · rw [cond_of_true hb] at h; exact cons rfl h
      · rw [cond_of_false hb] at h; cases h
theorem VRL.join {E : Env} : ∀ {l r : List AV} {a b : List Value}, VRL E l a → VRL E r b → VRL E (l ++ r) (a ++ b)
  | [], _, _, _, .nil, h => h
  | _ :: _, _, _, _, .cons h1 h2, h => .cons h1 (VRL.join h2 h)
theorem slotsT_take : ∀ (ls : List Nat) (vs : List AV) (tr : Tr AV), slotsT ls vs tr = slotsT ls (vs.take ls.length) tr
  | [], _, _ => by simp [slotsT]
  | _ :: _, [], _ => by simp [slotsT]
  | i :: ls, v :: vs, tr => by simp only [slotsT, List.length_cons, List.take_succ_cons]; exact slotsT_take ls vs _
theorem VRL.take_ {E : Env} : ∀ {l : List AV} {vs : List Value} (n : Nat), VRL E l vs → VRL E (l.take n) (vs.take n)
  | _, _, 0, _ => by simp; exact .nil
  | _, _, _ + 1, .nil => by simp; exact .nil
  | _, _, n + 1, .cons h1 h2 => by simp only [List.take_succ_cons]; exact .cons h1 (VRL.take_ n h2)
theorem VRL.drop_ {E : Env} : ∀ {l : List AV} {vs : List Value} (n : Nat), VRL E l vs → VRL E (l.drop n) (vs.drop n)
  | _, _, 0, h => by simpa using h
  | _, _, _ + 1, .nil => by simp; exact .nil
  | _, _, n + 1, .cons _ h2 => by simp only [List.drop_succ_cons]; exact VRL.drop_ n h2
theorem packRC_ok {E0 E : Env} {s0 s s' : St} {w0 w : World} {nb p : Nat} {ls : List Nat} {t t' : T} {a : Act} (h0 : Rel E0 s0 w0) (h : Step E0 s0 w0 E s w) (hnb : s0.next ≤ nb) (ht : TR E t a) (hp : packRC nb ls p t s = some (t', s')) :
    ∃ E', Step E0 s0 w0 E' s' w ∧ TR E' t' a := by
  unfold packRC at hp
  split at hp
  case h_2 => cases hp
  rename_i hds
  split at hp
  case h_2 => cases hp
  rename_i r off hpt
  split at hp
  case h_2 => cases hp
  rename_i o ho
  rcases Bool.eq_false_or_eq_true (Nat.blt r nb && (o.solo && lowOkR s nb r nb)) with hb | hb
  rotate_left
  · rw [cond_of_false hb] at hp; cases hp
  rw [cond_of_true hb] at hp
  simp only [Bool.and_eq_true] at hb
  obtain ⟨hr, hs, hlow⟩ := hb
  have hr : r < nb := Nat.le_of_ble_eq_true hr
  split at hp
  case h_2 => cases hp
  rename_i is vs hk
  simp only [Option.some.injEq, Prod.mk.injEq] at hp
  obtain ⟨rfl, rfl⟩ := hp
  obtain ⟨h1, h2, h3⟩ := keepI_ok (E := E) hk
  have hvl := keepI_len hk
  -- where the row lies
  obtain ⟨b, base, hloc⟩ : ∃ b base, E.loc r = some (b, base) := by
    have hv := ht.val p
    rw [hpt] at hv
    generalize a.tmps.getD p undef = v at hv
    cases hv with
    | ptr off hl => exact ⟨_, _, hl⟩
  obtain ⟨c, ty, fz, g1, g2, g3, g4⟩ := h.rel.row r o b base ho hloc
  obtain ⟨⟨rfl, hty⟩, us, k1, k2⟩ := g4 (valid_solo hs)
  have hcell : ∀ i v, us[i]? = some v → w.cell? ⟨b, base + i, none⟩ = some v := fun i v e => by
    rw [World.cell?, g1]; exact k2 i v e
  -- blanked
  have st1 := h.rerow ho hs hloc (blanks o.vals) (by simp [blanks]) fun vs' hv _ => blanks_VRL hv.length
  generalize hs1 : s.set r (.row { o with vals := blanks o.vals }) = s1 at st1
  have hget1 : s1.get r = some (.row { o with vals := blanks o.vals }) := by rw [← hs1]; exact St.get_set_same _ _ _
  have hget : ∀ q, q ≠ r → s1.get q = s.get q := fun q hq => by rw [← hs1]; exact St.get_set_ne s _ (fun e => hq e.symm)
  have hrow1 : ∀ it ∈ is, rowAt s1 it.r = some it.o := fun it hit => by
    obtain ⟨q1, q2, _⟩ := h1 it hit
    obtain ⟨p1, p2⟩ := rowAt_eq q1
    have hne : it.r ≠ r := fun e => by
      rw [e, ho] at p1; cases p1
      obtain ⟨hroot, _⟩ := h.rel.wf.solo r it.o ho hs
      omega
    have hroot : it.o.root ≠ r := by omega
    unfold rowAt
    rw [hget _ hne, p1]
    simp only
    have : valid s1 it.o = true := by rw [← p2]; exact valid_congr (hget _ hroot)
    rw [this, cond_true]
  have hkept : KeptOk s1 nb is := ⟨fun it hit => by
    obtain ⟨_, q2, _, q4⟩ := h1 it hit
    exact ⟨hrow1 it hit, q2, q4⟩, h2⟩
  have hlow1 : LowOk s1 nb := by
    have key := lowOkR_ok hlow
    refine ⟨fun q o2 hq e => ?_, fun q es hq e => ?_⟩
    · by_cases hqr : q = r
      · subst hqr; rw [hget1] at e; cases e; exact blanks_unders nb _
      · rw [hget q hqr] at e; exact (key q hq hqr).1 o2 e
    · by_cases hqr : q = r
      · subst hqr; rw [hget1] at e; cases e
      · rw [hget q hqr] at e; exact (key q hq hqr).2 es e
  have st2 := Step.packG h0 st1 hnb hkept hlow1
  have hv := h3 (E' := E.pack nb is) (fun r hr => pack_low hr) (fun r hr => if_pos hr) rfl rfl (fun i it hi b base hl => by
    show (if nb + (0 + i) < nb then _ else _) = _
    rw [if_neg (by omega), show nb + (0 + i) - nb = i by omega, hi]
    simp only
    rw [hl]; rfl) (VRL.join (valsT_VRL ht ls) k1)
  have hlenT : (valsT t ls).length = ls.length := by
    clear hk hvl h3 hv
    induction ls with
    | nil => rfl
    | cons i l ih => simp [valsT, ih]
  have hvd : VRL (E.pack nb is) (vs.drop ls.length) us := by
    have := VRL.drop_ ls.length hv
    rwa [List.drop_left' (by simp)] at this
  have hvt : VRL (E.pack nb is) (vs.take ls.length) (ls.map fun i => a.tmps.getD i undef) := by
    have := VRL.take_ ls.length hv
    rwa [List.take_left' (by simp)] at this
  have hget2 : (packS s1 nb is).get r = some (.row { o with vals := blanks o.vals }) := by rw [pack_get, if_pos hr, hget1]
  have hloc2 : (E.pack nb is).loc r = some (b, base) := by rw [pack_low hr]; exact hloc
  have st3 := st2.rerow hget2 hs hloc2 (vs.drop ls.length) (by
      show (vs.drop ls.length).length = (blanks o.vals).length
      rw [List.length_drop, hvl, List.length_append, hlenT]
      simp [blanks]) fun vs' hv' hc' => by
    have : vs' = us := by
      have e1 : vs'.length = us.length := by rw [← hv'.length, ← k1.length]; simp [blanks]
      apply List.ext_getElem?
      intro i
      rcases Nat.lt_or_ge i us.length with hi | hi
      · have a1 := hc' i _ (List.getElem?_eq_getElem (by omega))
        have a2 := hcell i _ (List.getElem?_eq_getElem hi)
        rw [a1] at a2
        rw [List.getElem?_eq_getElem (by omega), List.getElem?_eq_getElem hi]
        exact a2
      · rw [List.getElem?_eq_none (by omega), List.getElem?_eq_none hi]
    subst this
    exact hvd
  refine ⟨E.pack nb is, ?_, ht.size, fun i => ?_, ?_⟩
  · unfold rerowS
    rw [hs1]
    exact st3
  · have hg : getT (pathOf i) (⟨slotsT ls vs .nil, t.n, [], t.rc⟩ : T) = getTr' (pathOf i) (slotsT ls vs .nil) := rfl
    rw [hg, slotsT_take]
    unfold getTr'
    rcases slotsT_get i ls (vs.take ls.length) .nil with h4 | ⟨k, v, h4, h5, h6⟩
    · rw [h4, Tr.getP_nil]; exact .undef _
    · rw [h6]
      obtain ⟨u, hu, hvu⟩ := hvt.at_ h5
      rw [List.getElem?_map, h4] at hu
      cases hu
      exact hvu
  · have := ht.ds
    rw [hds] at this
    generalize hdd : a.defers = dd at this
    cases this
    exact .nil
end Go.Am
end
