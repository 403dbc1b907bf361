/- Regions that draw their order, on both sides: the steps. -/
import Derived.Test.YtaiddjgpnpbckaaGreatDoorAmDraw
set_option autoImplicit false
namespace Go.Am

/-- A row that is there, and nowhere yet, comes to lie in a new block. -/
theorem Step.late {E0 E : Env} {s0 s : St} {w0 w : World} (h : Step E0 s0 w0 E s w) {r : Nat} {o : Row} (hr : s.get r = some (.row o)) (hn : E.loc r = none) (h0 : s0.next ≤ r) {vs : List Value} (hv : VRL E o.vals vs)
    (c : Array Value) (hc : ∀ (i : Nat) (v : Value), vs[i]? = some v → c[i]? = some v) (hl : o.vals.length ≤ c.size) :
    E.le (E.add r w.heap.size 0 c.size) ∧ Step E0 s0 w0 (E.add r w.heap.size 0 c.size) s (w.alloc (.cells c o.ty)) := by
  obtain ⟨hle, hrel⟩ := h.rel.map_new hr hn hv c hc hl
  refine ⟨hle, h.le.trans hle, fun q hq => by rw [Env.add_ne (by omega)]; exact h.old q hq, ?_, hrel, h.un, h.next, fun b hb hno hno2 => ?_, h.os, h.tape, h.output, ?_, h.owns, h.hids⟩
  · intro q b base e
    rcases Env.add_loc e with ⟨_, h3⟩ | ⟨_, h3⟩
    · cases h3; exact .inl h.size
    · exact h.new q b base h3
  · rw [heap_alloc_old w _ b (Nat.lt_of_lt_of_le hb h.size)]; exact h.fr b hb hno hno2
  · have := h.size
    simp; omega

theorem newRow_inj {s : St} {ta tb : TypeId} {a b : List AV} (h : pushRow s ta a = pushRow s tb b) : a = b ∧ ta = tb := by
  have := congrArg (fun x => x.get s.next) h
  unfold pushRow at this
  simp only [get_push_new] at this
  simp only [newRow, Option.some.injEq, AObj.row.injEq, Row.mk.injEq] at this
  exact ⟨this.1, this.2.2.2.2.2.2.2⟩

theorem set_get {ls : Array Bool} {i j : Nat} (h : i < ls.size) : (ls.setIfInBounds i true).getD j false = if i = j then true else ls.getD j false := by
  by_cases e : i = j
  · subst e; simp [h]
  · rw [if_neg e]; exact getD_set_ne false e

theorem maskT_n : ∀ {fl : List Nat} {t : T}, (maskT fl t).n = t.n
  | [], _ => rfl
  | d :: l, t => by simp only [maskT]; rw [maskT_n, put_n]
theorem maskT_ds : ∀ {fl : List Nat} {t : T}, (maskT fl t).ds = t.ds
  | [], _ => rfl
  | d :: l, t => by simp only [maskT]; rw [maskT_ds, put_ds]
theorem maskT_get {x : Nat} : ∀ {fl : List Nat} {t : T}, getT (pathOf x) (maskT fl t) = .undef ∨ (getT (pathOf x) (maskT fl t) = getT (pathOf x) t ∧ (x ∈ fl → t.n ≤ x))
  | [], t => .inr ⟨rfl, by simp⟩
  | d :: l, t => by
    simp only [maskT]
    rcases maskT_get (x := x) (fl := l) (t := t.put d (pathOf d) .undef) with h | ⟨h1, h2⟩
    · exact .inl h
    · by_cases e : d = x
      · subst e
        rw [h1, put_get_same]
        by_cases hn : d < t.n
        · rw [if_pos hn]; exact .inl rfl
        · rw [if_neg hn]; exact .inr ⟨rfl, fun _ => by omega⟩
      · rw [h1, put_get_ne e]
        rw [put_n] at h2
        refine .inr ⟨rfl, fun hm => ?_⟩
        rcases List.mem_cons.1 hm with h3 | h3
        · exact absurd h3.symm e
        · exact h2 h3

section
variable {P : Program} {G : Glob} {callF : CF} {ops : Array Oper} {Q : Exit → Act → World → Prop} {items : List Item} {l : List Plat} {t0 : T} {s0 : St}
variable {E0 E : Env} {w0 w : World} {m : Nat} {ls : Array Bool} {a : Act} {tm tv : T} {sm : St}

/-- The slot of one that comes late holds what the plan's order has put there. -/
theorem slot_late (hp : PlanOk P ops l items) (h : Inv P G callF ops items l t0 s0 E0 w0 m ls a w E tm sm tv) {k : Nat} {p : Plat} (hk : l[k]? = some p) (hu : ls.getD p.i false = false) {tk : T} {sk : St}
    (htk : trC P G callF ops items t0 s0 k = some (tk, sk)) {v : AV} {x : Nat} (hd : p.dst = some x) (hv : getT (pathOf x) (tk.put x (pathOf x) v) = getT (pathOf x) tm) :
    getT (pathOf x) (tv.put x (pathOf x) v) = getT (pathOf x) tm := by
  rw [put_get_same] at hv ⊢
  rw [tr_n hp htk] at hv
  rw [h.n]
  by_cases hn : x < t0.n
  · rw [if_pos hn] at hv ⊢; exact hv
  · rw [if_neg hn] at hv ⊢
    rw [← hv, tr_far hp (by omega) htk]
    refine h.vis0 x fun k' p' hk' hl' hd' => ?_
    have := hp.writer hk' hk hd' hd
    subst this
    rw [hk] at hk'; cases hk'
    rw [hu] at hl'; cases hl'

theorem Inv.listed (hp : PlanOk P ops l items) (h : Inv P G callF ops items l t0 s0 E0 w0 m ls a w E tm sm tv) {k : Nat} {p : Plat} (hlt : k < m) (hk : l[k]? = some p) (hu : ls.getD p.i false = false)
    (he : ∀ e ∈ edgesOf p.o, ls.getD e false = true) {tk : T} {sk : St} (htk : trC P G callF ops items t0 s0 k = some (tk, sk)) {E' : Env} {a' : Act} {w' : World} {v : AV}
    (hs : Step E0 s0 w0 E' sm w') (hG : GlobOk E' G) (ht : TR E' (putC p.dst v tv) a') (hv : ∀ d, p.dst = some d → getT (pathOf d) (tk.put d (pathOf d) v) = getT (pathOf d) tm)
    (hloc : ∀ (k' : Nat) (q : Plat) (tk' : T) (sk' : St), k' < m → k' ≠ k → l[k']? = some q → ls.getD q.i false = false → q.kd = .new → trC P G callF ops items t0 s0 k' = some (tk', sk') →
      guardC ops q.o.guard tk' = some true → E'.loc sk'.next = none) :
    Inv P G callF ops items l t0 s0 E0 w0 m (ls.setIfInBounds p.i true) a' w' E' tm sm (putC p.dst v tv) := by
  have hpi : p.i < ls.size := by
    have := (hp.plat k p hk).1
    rw [h.size]
    exact (Array.getElem?_eq_some_iff.1 this).1
  have hls : ∀ j, ls.getD j false = true → (ls.setIfInBounds p.i true).getD j false = true := fun j hj => by rw [set_get hpi]; split <;> first | rfl | exact hj
  have hun : ∀ (k' : Nat) (q : Plat), l[k']? = some q → (ls.setIfInBounds p.i true).getD q.i false = false → ls.getD q.i false = false ∧ k' ≠ k := fun k' q hq hl => by
    rw [set_get hpi] at hl
    split at hl
    · cases hl
    · rename_i hne
      refine ⟨hl, fun e => ?_⟩
      subst e; rw [hk] at hq; cases hq; exact hne rfl
  have hin : ∀ (k' : Nat) (q : Plat), l[k']? = some q → (ls.setIfInBounds p.i true).getD q.i false = true → k' = k ∨ ls.getD q.i false = true := fun k' q hq hl => by
    rw [set_get hpi] at hl
    split at hl
    · rename_i e; exact .inl (hp.uniq k' k q p hq hk e.symm)
    · exact .inr hl
  refine ⟨by simp [h.size], h.at_, fun k' q h1 h2 h3 => hls _ (h.done k' q h1 h2 h3), ?_, ?_, hs, hG, ht, by rw [putC_n, h.n], by rw [putC_ds, h.ds], ?_, ?_, h.mono, ?_, ?_⟩
  · intro k' q hq hl
    rcases hin k' q hq hl with h1 | h1
    · omega
    · exact h.lim k' q hq h1
  · intro i o hi ho e hem
    rw [set_get hpi] at hi
    split at hi
    · rename_i e1
      subst e1
      rw [(hp.plat k p hk).1] at ho
      cases ho
      exact hls _ (he e hem)
    · exact hls _ (h.cl i o hi ho e hem)
  · intro k' q x hq hl hd
    rcases hin k' q hq hl with h1 | h1
    · subst h1
      rw [hk] at hq; cases hq
      have := slot_late hp h hk hu htk hd (hv x hd)
      rw [hd]; exact this
    · rw [putC_get_ne fun e => ?_]
      · exact h.vis1 k' q x hq h1 hd
      · have := hp.writer hq hk hd e
        subst this
        rw [hk] at hq; cases hq
        rw [hu] at h1; cases h1
  · intro x hx
    rw [putC_get_ne fun e => hx k p hk (by rw [set_get hpi, if_pos rfl]) e]
    exact h.vis0 x fun k' q hq hl => hx k' q hq (hls _ hl)
  · intro k' q tk' sk' h1 h2 h3 h4 h5 h6
    exact h.pval k' q tk' sk' h1 h2 (hun k' q h2 h3).1 h4 h5 h6
  · intro k' q tk' sk' h1 h2 h3 h4 h5 h6
    obtain ⟨g1, g2⟩ := hun k' q h2 h3
    obtain ⟨_, f2⟩ := h.pnew k' q tk' sk' h1 h2 g1 h4 h5 h6
    exact ⟨hloc k' q tk' sk' h1 g2 h2 g1 h4 h5 h6, f2⟩

theorem edges_anc (hp : PlanOk P ops l items) (h : Inv P G callF ops items l t0 s0 E0 w0 m ls a w E tm sm tv) {k : Nat} {p : Plat} (hk : l[k]? = some p) (he : ∀ e ∈ edgesOf p.o, ls.getD e false = true) :
    ∀ j, p.bef.testBit j = true → ls.getD j false = true := hp.anc h.cl k p hk he

theorem next_lt (hp : PlanOk P ops l items) (h : Inv P G callF ops items l t0 s0 E0 w0 m ls a w E tm sm tv) {k k' : Nat} {q : Plat} {tk tk' : T} {sk sk' : St} (hlt : k < k') (hle : k' ≤ m) (hq : l[k]? = some q)
    (hkd : q.kd = .new) (h1 : trC P G callF ops items t0 s0 k = some (tk, sk)) (hg : guardC ops q.o.guard tk = some true) (h2 : trC P G callF ops items t0 s0 k' = some (tk', sk')) : sk.next < sk'.next := by
  obtain ⟨t1, s1, e1⟩ := tr_le h2 (show k + 1 ≤ k' by omega)
  obtain ⟨t, s, it, g1, g2, g3, g4⟩ := tr_item hp hq e1
  rw [h1] at g1; cases g1
  have hn : sk.next + 1 = s1.next := by
    cases g4 with
    | unwanted hg' => rw [g3, hg] at hg'; cases hg'
    | plain v s' _ hk e =>
      rw [g3] at e
      obtain ⟨mk, ety, vals, _, e2, _⟩ := opC_new (by rw [← (hp.plat k q hq).2.1]; exact hkd) e
      rw [e2]; rfl
    | val v s' _ hk => rw [g3, hkd] at hk; cases hk
    | skip s' _ hk => rw [g3, hkd] at hk; cases hk
    | dfr f args s' _ hk => rw [g3, hkd] at hk; cases hk
  have := h.mono (k + 1) k' t1 tk' s1 sk' (by omega) hle e1 h2
  omega

/-- One that is no effect, and is behind the plan's order, comes up. -/
theorem Inv.pend (hc : CFok P G callF) (hp : PlanOk P ops l items) (h : Inv P G callF ops items l t0 s0 E0 w0 m ls a w E tm sm tv) {k : Nat} {p : Plat} (hlt : k < m) (hk : l[k]? = some p) (hu : ls.getD p.i false = false)
    (he : ∀ e ∈ edgesOf p.o, ls.getD e false = true) :
    wpOp P ops Q p.i (fun a' w' => ∃ E' tv', Inv P G callF ops items l t0 s0 E0 w0 m (ls.setIfInBounds p.i true) a' w' E' tm sm tv') a w := by
  obtain ⟨hop, hkd, hdst, hlooks, _⟩ := hp.plat k p hk
  have hne : p.kd.isEff = false := by
    cases hx : p.kd.isEff with
    | false => rfl
    | true => rw [h.done k p hlt hk hx] at hu; cases hu
  obtain ⟨t1, s1, e1⟩ := tr_le h.at_ (show k + 1 ≤ m by omega)
  obtain ⟨tk, sk, it, htk, g2, g3, g4⟩ := tr_item hp hk e1
  have hag := h.agree hp (Nat.le_of_lt hlt) hk hu (edges_anc hp h hk he) htk
  have hgd := looks_guard hlooks hag
  have hdep : ∀ s, opC P G callF p.o tv s = opC P G callF p.o tk s := fun s => opC_dep (hp.nosel _ _ hop) (looks_ev hlooks hag)
  have hslot : ∀ v, t1 = putC p.dst v tk → ∀ d, p.dst = some d → getT (pathOf d) (tk.put d (pathOf d) v) = getT (pathOf d) tm := fun v e d hd => by
    rw [tr_frame' hp e1 h.at_ (by omega) fun j q hj _ hq hqd => ?_, e, hd]; rfl
    have := hp.writer hq hk hqd hd
    omega
  have hlocs : ∀ (k' : Nat) (q : Plat) (tk' : T) (sk' : St), k' < m → k' ≠ k → l[k']? = some q → ls.getD q.i false = false → q.kd = .new → trC P G callF ops items t0 s0 k' = some (tk', sk') →
      guardC ops q.o.guard tk' = some true → E.loc sk'.next = none ∧ sk'.next < sm.next := fun k' q tk' sk' h1 _ h2 h3 h4 h5 h6 => by
    obtain ⟨f1, _, _, _, vals, _, f2, _⟩ := h.pnew k' q tk' sk' h1 h2 h3 h4 h5 h6
    exact ⟨f1, h.step.rel.wf.lt f2⟩
  subst g3
  cases g4 with
  | unwanted hg =>
    refine wpOp_unwanted hop (guard_ok h.tr (by rw [hgd]; exact hg)) ?_
    rw [← hdst]
    exact ⟨E, _, h.listed hp hlt hk hu he htk h.step h.glob (h.tr.putC _ (vr_undef E)) (hslot _ rfl) fun k' q tk' sk' h1 h2 h3 h4 h5 h6 h7 => (hlocs k' q tk' sk' h1 h2 h3 h4 h5 h6 h7).1⟩
  | plain v s' hg _ e =>
    have hwant := guard_ok h.tr (o := it.p.o) (b := true) (by rw [hgd]; exact hg)
    rcases kd_cases it.p hne with hkk | hkk
    · obtain ⟨v2, e2, e3⟩ := h.pval k it.p tk sk hlt hk hu hkk htk hg
      have hok := opC_ok (o := it.p.o) hc h.step.rel h.glob h.tr
      rw [hdep, e2] at hok
      refine wpOp_ok hop hwant hok fun v' E' w' hs hv => ?_
      rw [← hdst]
      refine ⟨E', _, h.listed hp hlt hk hu he htk (h.step.trans hs) (h.glob.mono hs.le) ((h.tr.mono hs.le).putC _ hv) e3 fun k' q tk' sk' h1 h2 h3 h4 h5 h6 h7 => ?_⟩
      obtain ⟨f1, f2⟩ := hlocs k' q tk' sk' h1 h2 h3 h4 h5 h6 h7
      rw [hs.old _ f2]; exact f1
    · obtain ⟨f1, f2, v2, ety, vals, f3, f4, f5⟩ := h.pnew k it.p tk sk hlt hk hu hkk htk hg
      obtain ⟨mk, ety', vals', n1, n2, n3⟩ := opC_new (P := P) (G := G) (callF := callF) (o := it.p.o) (t := tv) (by rw [← hkd]; exact hkk) (by rw [hdep]; exact f3)
      obtain ⟨n4, n5⟩ := newRow_inj n2
      subst n4 n5
      obtain ⟨vs, c, x, r1, r2, r3, r4, r5⟩ := n3 E w a h.glob h.tr
      obtain ⟨hle, hs⟩ := h.step.late f4 f1 f2 r1 c r2 r3
      unfold wpOp
      simp only [hop, hwant, if_true]
      left
      unfold Oper.wp
      rw [r4, Oper.upon_value, ← hdst]
      have hv : VR (E.add sk.next w.heap.size 0 c.size) v2 x := by
        rw [n1]; exact r5 _ _ (Env.add_self _ _ _ _ _) (by simp [Env.add])
      refine ⟨_, _, h.listed hp hlt hk hu he htk hs (h.glob.mono hle) ((h.tr.mono hle).putC _ hv) f5 fun k' q tk' sk' h1 h2 h3 h4 h5 h6 h7 => ?_⟩
      obtain ⟨i1, _⟩ := hlocs k' q tk' sk' h1 h2 h3 h4 h5 h6 h7
      rw [Env.add_ne]
      · exact i1
      · rcases Nat.lt_or_ge k' k with h8 | h8
        · have := next_lt hp h h8 (Nat.le_of_lt hlt) h3 h5 h6 h7 htk
          omega
        · have := next_lt hp h (show k < k' by omega) (Nat.le_of_lt h1) hk hkk htk hg h6
          omega
  | val v s' _ hk' => rw [hne] at hk'; cases hk'
  | skip s' _ hk' => rw [hne] at hk'; cases hk'
  | dfr f args s' _ hk' => rw [hne] at hk'; cases hk'
end
end Go.Am
