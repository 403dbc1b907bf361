import Derived.Test.YtlibahklbbachaaGreatDoorTx7
set_option autoImplicit false
set_option maxRecDepth 100000
set_option linter.unusedSimpArgs false
set_option linter.unusedVariables false
namespace Go.Am
def St.rowsM (l : List (TypeId × List AV)) (es : List (AV × AV)) : St := (St.rows l).push (.mapo es)
def Env.layM (l : List Lay) (bm : Nat) (z : Nat → Nat → Option Value) (w : World) (H : Hid → Nat → (Nat → Prop) → World → Prop) : Env := (Env.lay l z w H).add l.length bm 0 0
theorem Env.layM_loc {l : List Lay} {bm : Nat} {z : Nat → Nat → Option Value} {w : World} {H : Hid → Nat → (Nat → Prop) → World → Prop} {r b base : Nat} (e : (Env.layM l bm z w H).loc r = some (b, base)) :
    (r = l.length ∧ b = bm ∧ base = 0) ∨ ∃ p, l[r]? = some p ∧ p.b = b ∧ p.base = base := by
  have e : (if r = l.length then some (bm, 0) else (l[r]?).map (fun p => (p.b, p.base))) = some (b, base) := e
  by_cases hr : r = l.length
  · rw [if_pos hr] at e; cases e; exact .inl ⟨hr, rfl, rfl⟩
  rw [if_neg hr] at e
  cases hp : l[r]? with
  | none => rw [hp] at e; cases e
  | some p => rw [hp] at e; cases e; exact .inr ⟨p, rfl, rfl, rfl⟩
theorem rowsM_get (l : List Lay) (es : List (AV × AV)) (r : Nat) : (St.rowsM (Lay.of l) es).get r = if r = l.length then some (.mapo es) else (l[r]?).map fun p => .row (rowB r p.ty p.vals) := by
  have hnext : (St.rows (Lay.of l)).next = l.length := by simp [St.rows, Lay.of]
  unfold St.rowsM
  rw [St.get_push, hnext, rows_get, Lay.of, List.getElem?_map, Option.map_map]
  by_cases h : r = l.length
  · rw [if_pos h, if_pos h.symm]
  · rw [if_neg h, if_neg (fun e => h e.symm)]; rfl
theorem Rel.layM {l : List Lay} {bm : Nat} {es : List (AV × AV)} {ents : Array MapEntry} {clock : Nat} {z : Nat → Nat → Option Value} {w : World} {H : Hid → Nat → (Nat → Prop) → World → Prop} (h1 : ∀ p ∈ l, LayOk (Env.layM l bm z w H) w p)
    (h2 : ∀ (i j : Nat) (p q : Lay), l[i]? = some p → l[j]? = some q → p.b = q.b → i = j) (h3 : ∀ b o v, z b o = some v → w.cell? ⟨b, o, none⟩ = some v ∧ (∀ p ∈ l, p.b ≠ b) ∧ b ≠ bm) (hne : ∀ p ∈ l, p.b ≠ bm)
    (hb : w.heap[bm]? = some (.map ents clock)) (hk : VRL (Env.layM l bm z w H) (es.map (·.1)) (ents.toList.map (·.key))) (hv : VRL (Env.layM l bm z w H) (es.map (·.2)) (ents.toList.map (·.val))) : Rel (Env.layM l bm z w H) (St.rowsM (Lay.of l) es) w := by
  have hget := rowsM_get l es
  have hnext : (St.rowsM (Lay.of l) es).next = l.length + 1 := by simp [St.rowsM, St.rows, Lay.of]
  have hrow : ∀ {r : Nat} {o : Row}, (St.rowsM (Lay.of l) es).get r = some (.row o) → ∃ p, l[r]? = some p ∧ o = rowB r p.ty p.vals := fun {r o} e => by
    rw [hget] at e
    by_cases hr : r = l.length
    · rw [if_pos hr] at e; cases e
    rw [if_neg hr] at e
    cases hp : l[r]? with
    | none => rw [hp] at e; cases e
    | some p => rw [hp] at e; cases e; exact ⟨p, rfl, rfl⟩
  have hlt : ∀ {r : Nat} {p : Lay}, l[r]? = some p → r < l.length := fun {r p} e => by
    rcases Nat.lt_or_ge r l.length with h | h
    · exact h
    · rw [List.getElem?_eq_none h] at e; cases e
  have blk : ∀ {p : Lay}, p ∈ l → p.b < w.heap.size := fun {p} hp => by
    obtain ⟨c, g1, _⟩ := h1 p hp
    rcases Nat.lt_or_ge p.b w.heap.size with h | h
    · exact h
    · rw [Array.getElem?_eq_none h] at g1; cases g1
  have hbm : bm < w.heap.size := by
    rcases Nat.lt_or_ge bm w.heap.size with h | h
    · exact h
    · rw [Array.getElem?_eq_none h] at hb; cases hb
  have hat : ∀ {r : Nat} {p : Lay}, l[r]? = some p → (St.rowsM (Lay.of l) es).get r = some (.row (rowB r p.ty p.vals)) := fun {r p} e => by
    rw [hget, if_neg (by have := hlt e; omega), e]; rfl
  refine ⟨⟨fun r hr => ?_, fun r o e => ?_, fun r o e hs => ?_, fun r o e => ?_⟩, fun r b base e => ?_, fun r q e => ?_, fun b o v e => (h3 b o v e).1, fun b o v r base e el => ?_, fun r o b base e el => ?_, fun r es' b base e el => ?_, fun r x n b base e el => ?_,
    fun r1 r2 b b1 b2 e1 e2 => ?_, fun r o b base e el hq hp => ?_, fun n d b e eb w1 hw => (by cases eb), fun n c hc => hc.elim, fun n b eb => (by cases eb)⟩
  · rw [hnext] at hr
    rw [hget, if_neg (by omega), List.getElem?_eq_none (by omega)]; rfl
  · obtain ⟨p, hp, rfl⟩ := hrow e
    exact ⟨rowB r p.ty p.vals, e, rfl, Nat.le_refl _, fun _ => Nat.le_refl _⟩
  · obtain ⟨p, hp, rfl⟩ := hrow e
    refine ⟨rfl, fun r2 o2 e2 h5 => ?_⟩
    obtain ⟨p2, hp2, rfl⟩ := hrow e2
    exact h5
  · obtain ⟨p, hp, rfl⟩ := hrow e
    exact Nat.le_refl _
  · rw [hnext]
    rcases Env.layM_loc e with ⟨rfl, rfl, rfl⟩ | ⟨p, hp, rfl, rfl⟩
    · exact ⟨Nat.lt_succ_self _, hbm⟩
    · exact ⟨by have := hlt hp; omega, blk (List.mem_of_getElem? hp)⟩
  · obtain ⟨b, base⟩ := q
    rcases Env.layM_loc e with ⟨rfl, rfl, rfl⟩ | ⟨p, hp, rfl, rfl⟩
    · exact ⟨_, by rw [hget, if_pos rfl]⟩
    · exact ⟨_, hat hp⟩
  · rcases Env.layM_loc el with ⟨rfl, rfl, rfl⟩ | ⟨p, hp, rfl, rfl⟩
    · exact (h3 _ o v e).2.2 rfl
    · exact (h3 _ o v e).2.1 p (List.mem_of_getElem? hp) rfl
  · rcases Env.layM_loc el with ⟨rfl, rfl, rfl⟩ | ⟨p, hp, rfl, rfl⟩
    · rw [hget, if_pos rfl] at e; cases e
    · obtain ⟨p', hp', rfl⟩ := hrow e
      rw [hp] at hp'; cases hp'
      obtain ⟨c, g1, g2, vs, g3, g4⟩ := h1 p (List.mem_of_getElem? hp)
      refine ⟨c, p.ty, (0, 0), g1, ?_, g2, fun _ => ⟨⟨rfl, rfl⟩, vs, g3, g4⟩⟩
      show c.size = (if p.b = bm then 0 else match w.heap[p.b]? with | some (.cells c _ _) => c.size | _ => 0)
      rw [if_neg (hne p (List.mem_of_getElem? hp)), g1]
  · rcases Env.layM_loc el with ⟨rfl, rfl, rfl⟩ | ⟨p, hp, rfl, rfl⟩
    · rw [hget, if_pos rfl] at e; cases e
      exact ⟨ents, clock, hb, hk, hv⟩
    · rw [hat hp] at e; cases e
  · rcases Env.layM_loc el with ⟨rfl, rfl, rfl⟩ | ⟨p, hp, rfl, rfl⟩
    · rw [hget, if_pos rfl] at e; cases e
    · rw [hat hp] at e; cases e
  · rcases Env.layM_loc e1 with ⟨rfl, e3, rfl⟩ | ⟨p, hp, e3, rfl⟩ <;> rcases Env.layM_loc e2 with ⟨rfl, e4, rfl⟩ | ⟨q, hq, e4, rfl⟩
    · exact .inl rfl
    · subst e3; exact absurd e4 (hne q (List.mem_of_getElem? hq))
    · subst e4; exact absurd e3 (hne p (List.mem_of_getElem? hp))
    · exact .inl (h2 r1 r2 p q hp hq (e3.trans e4.symm))
  · obtain ⟨p, hp, rfl⟩ := hrow e
    cases hp
theorem presM_known {P : Program} {G : Glob} (hm : P.follows .mixedOrders = true) (hn : NoNG P) (hp : GlobPlain G) {X : Known} (hX : KnownOk P G X) {D : Live} {m loops n : Nat} {f : FuncId} {F : Hid → List AV → Option (Bool × AV × Hid)}
    {Sees : List AV → Hid → Nat → (Nat → Prop) → World → List Lay → Nat → List (AV × AV) → Prop} {Ends : List AV → Hid → Hid → List Lay → List (AV × AV) → St → Prop}
    (hH : ∀ as d b own w x d', F d as = some (true, x, d') → G.H d b own w → ∃ l bm es ents clock, Sees as d b own w l bm es ∧ (∃ p, l[0]? = some p ∧ p.b = b ∧ p.base = 0) ∧ (∀ p ∈ l, own p.b) ∧ (∀ p ∈ l, LayOk (Env.layM l bm (fun _ _ => none) w G.H) w p) ∧ (∀ (i j : Nat) (p q : Lay), l[i]? = some p → l[j]? = some q → p.b = q.b → i = j) ∧
      own bm ∧ (∀ p ∈ l, p.b ≠ bm) ∧ w.heap[bm]? = some (.map ents clock) ∧ ∀ E : Env, VRL E (es.map (·.1)) (ents.toList.map (·.key)) ∧ VRL E (es.map (·.2)) (ents.toList.map (·.val)))
    (hF : ∀ d b own w l bm es as x d', Sees as d b own w l bm es → F d as = some (true, x, d') → ∃ rest, as = .hptr 0 :: rest ∧ AV.plains rest = true ∧ x.flat = true ∧ ∃ s', bodyD P G (callN P G X loops n) D m P.funcs[f]? (.ptr 0 0 :: rest) (St.rowsM (Lay.of l) es) = .ret x s' ∧ Ends as d d' l es s')
    (hE : ∀ as d d' l bm es s' b own w E' w' z, Sees as d b own w l bm es → Ends as d d' l es s' → (∃ p, l[0]? = some p ∧ p.b = b ∧ p.base = 0) → (∀ p ∈ l, own p.b) → own bm → Step (Env.layM l bm z w G.H) (St.rowsM (Lay.of l) es) w E' s' w' → (∀ c, own c → c < w.heap.size) →
      (∀ c, c < w.heap.size → (∀ p ∈ l, p.b ≠ c) → c ≠ bm → w'.heap[c]? = w.heap[c]?) → ∃ own', (∀ c, own' c → c < w'.heap.size ∧ (own c ∨ w.heap.size ≤ c)) ∧ ∀ w1 : World, (∀ c, own' c → w1.heap[c]? = w'.heap[c]?) → G.H d' b own' w1) : MethOk P G f F := by
  intro args s E w vs h hG ha
  unfold methX
  split
  · rename_i k hk
    split
    · rename_i d hd
      split
      · rename_i p hx
        obtain ⟨cc, x, d'⟩ := p
        cases cc with
        | false => trivial
        | true =>
        simp only [cond_true]
        obtain ⟨b, hb⟩ := findH_hb h ha hk
        have hz1 : ∀ b o v, E.stay w b o = some v → (E.one k w).z b o = some v := fun _ _ _ e => e
        have hhb : ∀ b, E.hb k = some b → (E.one k w).hb 0 = some b := fun b e => by show (if 0 = 0 then E.hb k else none) = some b; rw [if_pos rfl]; exact e
        obtain ⟨as, hx, has⟩ := convML_ok h hz1 hhb hx ha
        have hHd := h.hid k d b hd hb w (fun _ _ => rfl)
        rw [hG.2] at hHd
        obtain ⟨l, bm, es, ents, clock, hS, h0, hown, hlay, happ, hbm, hne, hmap, hes⟩ := hH as d b _ w x d' hx hHd
        obtain ⟨rest, rfl, hpl, hfl, s', hrun, hEnd⟩ := hF d b _ w l bm es as x d' hS hx
        have hst : ∀ c o v, E.stay w c o = some v → (E.stay w) c o = some v := fun _ _ _ e => e
        have hle : (Env.layM l bm (fun _ _ => none) w G.H).le (Env.layM l bm (E.stay w) w G.H) := ⟨fun _ _ e => e, fun _ _ _ e => (by cases e), fun _ _ _ _ => rfl, fun _ _ e => e, rfl⟩
        have hrel : Rel (Env.layM l bm (E.stay w) w G.H) (St.rowsM (Lay.of l) es) w := Rel.layM (fun p hp => by
            obtain ⟨c, g1, g2, us, g3, g4⟩ := hlay p hp
            exact ⟨c, g1, g2, us, VRL.mono hle g3, g4⟩) happ (fun c o v e => by
            refine ⟨stay_cell h e, fun p hp hc => ?_, fun hc => ?_⟩
            · subst hc
              rw [stay_own h (hown p hp)] at e; cases e
            · subst hc
              rw [stay_own h hbm] at e; cases e) hne hmap (hes _).1 (hes _).2
        cases has with
        | cons a1 a2 =>
          cases a1 with
          | hp e0 =>
            rename_i b0
            have e0 : (if 0 = 0 then E.hb k else none) = some b0 := e0
            rw [if_pos rfl, hb] at e0
            cases e0
            obtain ⟨p0, hp0, hpb, hpbase⟩ := h0
            have hlen : 0 < l.length := by
              rcases Nat.lt_or_ge 0 l.length with h | h
              · exact h
              · rw [List.getElem?_eq_none h] at hp0; cases hp0
            have hloc0 : (Env.layM l bm (E.stay w) w G.H).loc 0 = some (b, 0) := by
              show (if 0 = l.length then some (bm, 0) else (l[0]?).map _) = _
              rw [if_neg (by omega), hp0]; simp [hpb, hpbase]
            have hargs : VRL (Env.layM l bm (E.stay w) w G.H) (.ptr 0 0 :: rest) _ := .cons (.ptr (base := 0) 0 hloc0)
              (VRL.plain (E := Env.layM l bm (E.stay w) w G.H) (E1 := E.one k w) (fun c o v e => hst c o v e) a2 hpl)
            have hH2 : E.H = G.H := hG.2
            have hr := bodyD_ok (D := D) hm hn (callN_ok hm hn hX loops n) m f _ (St.rowsM (Lay.of l) es) (Env.layM l bm (E.stay w) w G.H) w _ hrel (GlobOk.one h hp hG hst hH2.symm) hargs
            rw [hrun] at hr
            have fin : ∀ (w' : World) (E' : Env) (v' : Value), Step (Env.layM l bm (E.stay w) w G.H) (St.rowsM (Lay.of l) es) w E' s' w' → VR E' x v' → ∃ E2, Step E s w E2 (s.set k (.hid d')) w' ∧ VR E2 x v' := by
              intro w' E' v' hs hv
              have hfr : ∀ c, c < w.heap.size → (∀ p ∈ l, p.b ≠ c) → c ≠ bm → w'.heap[c]? = w.heap[c]? := fun c hc hne hcb => hs.fr c hc (fun r base e => by
                have e : (if r = l.length then some (bm, 0) else (l[r]?).map (fun p => (p.b, p.base))) = some (c, base) := e
                by_cases hr : r = l.length
                · rw [if_pos hr] at e; cases e; exact hcb rfl
                rw [if_neg hr] at e
                cases hp : l[r]? with
                | none => rw [hp] at e; cases e
                | some p => rw [hp] at e; cases e; exact hne p (List.mem_of_getElem? hp) rfl) (fun n e => e)
              obtain ⟨own', k1, k2⟩ := hE _ d d' l bm es s' b _ w E' w' _ hS hEnd ⟨p0, hp0, hpb, hpbase⟩ hown hbm hs (fun c hc => (h.own k c hc).1) hfr
              exact ⟨_, Step.turned h hd hb (own := own') (fun c hc ho => hfr c hc (fun p hp e => by subst e; exact ho (hown p hp)) fun e => by subst e; exact ho hbm) hs.size hs.os hs.tape hs.output k1 (fun w1 hw => by rw [hG.2]; exact k2 w1 hw), hv.flat hfl⟩
            rcases hr with ⟨h4, h5⟩ | ⟨v', w', E', h4, h5, h6⟩
            · exact .inl ⟨h4, Calls.mono h5 fun e w' ⟨v', E', he, hs, hv⟩ => by
                obtain ⟨E2, k1, k2⟩ := fin w' E' v' hs hv
                exact ⟨v', E2, he, k1, k2⟩⟩
            · obtain ⟨E2, k1, k2⟩ := fin w' E' v' h5 h6
              exact .inr ⟨v', w', E2, h4, k1, k2⟩
      · trivial
    · trivial
  · trivial
end Go.Am
