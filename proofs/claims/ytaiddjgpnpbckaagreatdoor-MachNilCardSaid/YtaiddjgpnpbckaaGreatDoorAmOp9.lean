/- The operations, on both sides: writing to a map; all together. -/
import Derived.Test.YtaiddjgpnpbckaaGreatDoorAmOp8
set_option autoImplicit false
namespace Go.Am
open Go.MapKept (IsKey run_checkKey run_findKey)

/-- A map on both sides is written. -/
theorem Step.setMap {E : Env} {s : St} {w : World} (h : Rel E s w) {r b base : Nat} {es es' : List (AV × AV)} (hr : s.get r = some (.mapo es)) (hl : E.loc r = some (b, base))
    {ents ents' : Array MapEntry} {clock clock' : Nat} (hb : w.heap[b]? = some (.map ents clock)) (h1 : VRL E (es'.map (·.1)) (ents'.toList.map (·.key))) (h2 : VRL E (es'.map (·.2)) (ents'.toList.map (·.val))) :
    Step E s w E (s.set r (.mapo es')) { w with heap := w.heap.setIfInBounds b (.map ents' clock') } := by
  have hlt : b < w.heap.size := (h.lt r b base hl).2
  have hne : ∀ b2, b2 ≠ b → (w.heap.setIfInBounds b (.map ents' clock'))[b2]? = w.heap[b2]? := fun b2 hb2 => by rw [Array.getElem?_setIfInBounds_ne (fun e => hb2 e.symm)]
  have hrow : ∀ q o2, (s.set r (.mapo es')).get q = some (.row o2) → q ≠ r ∧ s.get q = some (.row o2) := by
    intro q o2 e
    by_cases hq : q = r
    · subst hq; rw [St.get_set_same] at e; cases e
    · rw [St.get_set_ne _ _ (fun e => hq e.symm)] at e; exact ⟨hq, e⟩
  have hroot : ∀ q o2, s.get q = some (.row o2) → (s.set r (.mapo es')).get o2.root = s.get o2.root := by
    intro q o2 e
    obtain ⟨q2, g1, _⟩ := h.wf.root q o2 e
    refine St.get_set_ne _ _ (fun e2 => ?_)
    rw [← e2, hr] at g1; cases g1
  have hval : ∀ q o2, s.get q = some (.row o2) → valid (s.set r (.mapo es')) o2 = valid s o2 := fun q o2 e => valid_congr (hroot q o2 e)
  have hold : ∀ q o2, s.get q = some (.row o2) → (s.set r (.mapo es')).get q = some (.row o2) := by
    intro q o2 e
    have hq : q ≠ r := fun e2 => by subst e2; rw [hr] at e; cases e
    rw [St.get_set_ne _ _ (fun e => hq e.symm)]; exact e
  have hrel : Rel E (s.set r (.mapo es')) { w with heap := w.heap.setIfInBounds b (.map ents' clock') } := by
    have hhid : ∀ n d, (s.set r (.mapo es')).get n = some (.hid d) ↔ s.get n = some (.hid d) := fun n d => by
      by_cases hn : n = r
      · subst hn; rw [St.get_set_same, hr]; constructor <;> intro e <;> cases e
      · rw [St.get_set_ne _ _ (fun e => hn e.symm)]
    refine ⟨⟨?_, ?_, ?_⟩, ?_, ?_, ?_, h.zap, ?_, ?_, ?_, ?_, fun q o2 b2 base2 e el hq => h.b0 q o2 b2 base2 (hrow q o2 e).2 el hq,
      fun n d b2 e eb w1 hw => h.hid n d b2 ((hhid n d).1 e) eb w1 fun k hk => (hw k hk).trans (hne k fun e2 => (h.own n k hk).2.1 r base (by rw [e2]; exact hl)),
      fun n k hk => ⟨by simpa using (h.own n k hk).1, (h.own n k hk).2⟩, fun n b2 eb => ⟨(h.hlt n b2 eb).1, by obtain ⟨_, d, e⟩ := h.hlt n b2 eb; exact ⟨d, (hhid n d).2 e⟩⟩⟩
    · intro q hq
      have : q ≠ r := fun e => by subst e; have := h.wf.lt hr; simp at hq; omega
      rw [St.get_set_ne _ _ (fun e => this e.symm)]; exact h.wf.fresh q hq
    · intro q o2 e
      obtain ⟨_, e2⟩ := hrow q o2 e
      obtain ⟨q2, g1, g2, g3, g4⟩ := h.wf.root q o2 e2
      exact ⟨q2, by rw [hroot q o2 e2]; exact g1, g2, g3, fun hv => g4 (by rw [← hval q o2 e2]; exact hv)⟩
    · intro q o2 e hs
      obtain ⟨_, e2⟩ := hrow q o2 e
      obtain ⟨k1, k2⟩ := h.wf.solo q o2 e2 hs
      exact ⟨k1, fun r2 o3 e3 h3 => k2 r2 o3 (hrow r2 o3 e3).2 h3⟩
    · intro q b2 base2 e
      have := h.lt q b2 base2 e
      exact ⟨this.1, by simpa using this.2⟩
    · intro q p e
      by_cases hq : q = r
      · subst hq; exact ⟨_, St.get_set_same _ _ _⟩
      · rw [St.get_set_ne _ _ (fun e => hq e.symm)]; exact h.obj q p e
    · intro b2 i v e
      have : b2 ≠ b := fun e2 => by subst e2; exact h.zap b2 i v r base e hl
      exact (World.cell?_of_block (w := w) (hne b2 this)).trans (h.z b2 i v e)
    · intro q o2 b2 base2 e el
      obtain ⟨hq, e2⟩ := hrow q o2 e
      obtain ⟨c, ty, fz, g1, g2, g3, g4⟩ := h.row q o2 b2 base2 e2 el
      have : b2 ≠ b := fun e3 => by subst e3; rw [hb] at g1; cases g1
      exact ⟨c, ty, fz, (hne b2 this).trans g1, g2, g3, fun hv => g4 (by rw [← hval q o2 e2]; exact hv)⟩
    · intro q es2 b2 base2 e el
      by_cases hq : q = r
      · subst hq
        rw [St.get_set_same] at e; cases e
        rw [hl] at el; cases el
        exact ⟨ents', clock', by simp [hlt], h1, h2⟩
      · rw [St.get_set_ne _ _ (fun e => hq e.symm)] at e
        obtain ⟨ents2, clock2, g1, g2⟩ := h.mapo q es2 b2 base2 e el
        have : b2 ≠ b := by
          intro e3; subst e3
          rcases h.coh q r b2 base2 base el hl with h3 | ⟨o1, o2, k1, _⟩
          · exact hq h3
          · rw [e] at k1; cases k1
        exact ⟨ents2, clock2, (hne b2 this).trans g1, g2⟩
    · intro q x n b2 base2 e el
      have hq : q ≠ r := fun e2 => by subst e2; rw [St.get_set_same] at e; cases e
      rw [St.get_set_ne _ _ (fun e => hq e.symm)] at e
      exact h.iter q x n b2 base2 e el
    · intro r1 r2 b2 b1 b3 e1 e2
      rcases h.coh r1 r2 b2 b1 b3 e1 e2 with h3 | ⟨o1, o2, k1, k2, k3, k4⟩
      · exact .inl h3
      · exact .inr ⟨o1, o2, hold r1 o1 k1, hold r2 o2 k2, k3, k4⟩
  refine ⟨.refl E, fun _ _ => rfl, fun q _ base2 e => .inr ⟨q, base2, e⟩, hrel, ?_, Nat.le_refl _, ?_, rfl, rfl, rfl, by simp, fun _ _ e => .inl e, fun n d e => ⟨d, by
    rw [St.get_set_ne _ _ (fun e2 => by subst e2; rw [hr] at e; cases e)]; exact e⟩⟩
  · intro q _ hn _ _
    exact St.get_set_ne _ _ (fun e => by subst e; rw [hl] at hn; cases hn)
  · intro b2 _ hno _
    exact hne b2 (fun e => by subst e; exact hno r base hl)

/-- A new map on both sides. -/
theorem Step.newMap {E : Env} {s : St} {w : World} (h : Rel E s w) : Step E s w (E.add s.next w.heap.size 0 0) (s.push (.mapo [])) (w.alloc (.map #[] 0)) := by
  have hn := h.loc_fresh
  have hfresh : ∀ r0 base0, E.loc r0 ≠ some (w.heap.size, base0) := fun r0 base0 e => by have := (h.lt r0 _ _ e).2; omega
  have hle : E.le (E.add s.next w.heap.size 0 0) := Env.add_le hn fun r0 base0 e => absurd e (hfresh r0 base0)
  have hold : ∀ b, b < w.heap.size → (w.alloc (.map #[] 0)).heap[b]? = w.heap[b]? := fun b hb => heap_alloc_old w _ b hb
  have h1 := h.push (.mapo []) (h.wf.push_other _ (by intro o; simp))
  refine ⟨hle, fun r hr => Env.add_ne (by omega), ?_, ?_, fun r hr _ _ _ => get_push_old hr, Nat.le_succ _, fun b hb _ _ => hold b hb, rfl, rfl, rfl, by simp, fun _ _ e => .inl e, fun n d e => ⟨d, by rw [get_push_old (h.wf.lt e)]; exact e⟩⟩
  · intro r b base e
    rcases Env.add_loc e with ⟨_, h3⟩ | ⟨_, h3⟩
    · cases h3; exact .inl (Nat.le_refl _)
    · exact .inr ⟨r, base, h3⟩
  · refine ⟨h1.wf, ?_, ?_, ?_, ?_, ?_, ?_, ?_, ?_, ?_, fun n d b e eb w1 hw => h1.hid n d b e eb w1 fun k hk => (hw k hk).trans (hold k (h.own n k hk).1), fun n k hk => ?_, h1.hlt⟩
    rotate_right
    · obtain ⟨o1, o2, o3⟩ := h.own n k hk
      refine ⟨by simp; omega, fun q base e => ?_, o3⟩
      rcases Env.add_loc e with ⟨_, h3⟩ | ⟨_, h3⟩
      · cases h3; omega
      · exact o2 q base h3
    · intro q b base e
      rcases Env.add_loc e with ⟨rfl, h3⟩ | ⟨_, h3⟩
      · cases h3; exact ⟨Nat.lt_succ_self _, by simp⟩
      · have := h.lt q b base h3
        exact ⟨Nat.lt_succ_of_lt this.1, by simp; omega⟩
    · intro q p e
      rcases Env.add_loc e with ⟨rfl, _⟩ | ⟨_, h3⟩
      · exact ⟨_, get_push_new⟩
      · exact h1.obj q p h3
    · intro b i v e
      have h3 := h.z b i v e
      exact (World.cell?_of_block (hold b (World.block_lt_of_cell? w _ h3))).trans h3
    · intro b i v q base e e2
      rcases Env.add_loc e2 with ⟨_, h3⟩ | ⟨_, h3⟩
      · cases h3
        have := World.block_lt_of_cell? w _ (h.z _ i v e)
        simp at this
      · exact h.zap b i v q base e h3
    · intro q o b base e el
      rcases Env.add_loc el with ⟨rfl, h3⟩ | ⟨hq, h3⟩
      · rw [get_push_new] at e; cases e
      · obtain ⟨c', ty', fz, g1, g2, g3, g4⟩ := h1.row q o b base e h3
        refine ⟨c', ty', fz, by rw [hold b (h.lt q b base h3).2]; exact g1, ?_, g3, fun hv' => ?_⟩
        · rw [hle.bsz q b base h3]; exact g2
        · obtain ⟨hz, vs', k1, k2⟩ := g4 hv'
          exact ⟨hz, vs', VRL.mono hle k1, k2⟩
    · intro q es b base e el
      rcases Env.add_loc el with ⟨rfl, h3⟩ | ⟨hq, h3⟩
      · cases h3
        rw [get_push_new] at e
        cases e
        exact ⟨#[], 0, heap_alloc_new w _, .nil, .nil⟩
      · obtain ⟨ents, clock, g1, g2, g3⟩ := h1.mapo q es b base e h3
        exact ⟨ents, clock, by rw [hold b (h.lt q b base h3).2]; exact g1, VRL.mono hle g2, VRL.mono hle g3⟩
    · intro q x n b base e el
      rcases Env.add_loc el with ⟨rfl, h3⟩ | ⟨hq, h3⟩
      · rw [get_push_new] at e; cases e
      · exact h1.iter q x n b base e h3
    · intro r1 r2 b b1 b2 e1 e2
      rcases Env.add_loc e1 with ⟨rfl, h3⟩ | ⟨hq1, h3⟩ <;> rcases Env.add_loc e2 with ⟨rfl, h4⟩ | ⟨hq2, h4⟩
      · exact .inl rfl
      · cases h3; exact absurd h4 (hfresh r2 b2)
      · cases h4; exact absurd h3 (hfresh r1 b1)
      · exact h1.coh r1 r2 b b1 b2 h3 h4
    · intro q o b base e el hq
      rcases Env.add_loc el with ⟨h2, _⟩ | ⟨_, h3⟩
      · subst h2; rw [get_push_new] at e; cases e
      · exact h1.b0 q o b base e h3 hq

section
variable {P : Program} {G : Glob} {E : Env} {s : St} {w : World} {t : T} {a : Act} {o : Oper}

theorem eqKey_isKey {d : KK} {x y : AV} {b : Bool} (h : eqKey d x y = some b) : isKey d x = true ∧ isKey d y = true := by
  cases d with
  | str => cases x <;> cases y <;> simp [eqKey] at h; exact ⟨rfl, rfl⟩
  | int k =>
    cases x <;> cases y <;> simp [eqKey] at h
    rename_i k1 n1 k2 n2
    rcases Bool.eq_false_or_eq_true (kindEq k k1 && kindEq k k2) with hb | hb
    · rw [Bool.and_eq_true] at hb; exact hb
    · rw [hb] at h; cases h

theorem putA_ok {d : KK} {x y : AV} {v u : Value} (hv : VR E x v) (hu : VR E y u) (c : Nat) : ∀ {es es' : List (AV × AV)} {ents : List MapEntry}, VRL E (es.map (·.1)) (ents.map (·.key)) → VRL E (es.map (·.2)) (ents.map (·.val)) →
    putA d x y es = some es' → ∀ i,
      (Instr.findNow d.desc v ents i = some none ∧ VRL E (es'.map (·.1)) ((ents ++ [({ key := v, val := u, born := c } : MapEntry)]).map (·.key)) ∧ VRL E (es'.map (·.2)) ((ents ++ [({ key := v, val := u, born := c } : MapEntry)]).map (·.val))) ∨
      ∃ j e, Instr.findNow d.desc v ents i = some (some (i + j, e.val)) ∧ ents[j]? = some e ∧ e.key = v ∧
        VRL E (es'.map (·.1)) ((ents.modify j fun (e : MapEntry) => ({ e with key := v, val := u } : MapEntry)).map (·.key)) ∧ VRL E (es'.map (·.2)) ((ents.modify j fun (e : MapEntry) => ({ e with key := v, val := u } : MapEntry)).map (·.val))
  | [], es', ents, h1, h2, h, i => by
    cases ents with
    | nil => simp only [putA, Option.some.injEq] at h; subst h; exact .inl ⟨rfl, .cons hv .nil, .cons hu .nil⟩
    | cons => cases h1
  | (k, z) :: es, es', ents, h1, h2, h, i => by
    cases ents with
    | nil => cases h1
    | cons e ents =>
      cases h1 with
      | cons a1 a2 =>
        cases h2 with
        | cons b1 b2 =>
          simp only [putA] at h
          split at h
          · rename_i b hb
            have hs := eqKey_ok hb hv a1
            have hk := eqKey_isKey hb
            cases b with
            | true =>
              simp only [cond_true, Option.some.injEq] at h
              subst h
              obtain ⟨q, q1, q2⟩ := MapKept.sameNow_of_keys (isKey_ok hk.1 hv) (isKey_ok hk.2 a1)
              rw [hs] at q1; cases q1
              exact .inr ⟨0, e, by simp [Instr.findNow, hs], rfl, (q2.1 rfl).symm, .cons hv a2, .cons hu b2⟩
            | false =>
              simp only [cond_false] at h
              split at h
              · rename_i q hq
                cases h
                rcases putA_ok hv hu c a2 b2 hq (i + 1) with ⟨c1, c2, c3⟩ | ⟨j, e2, c1, c2, c3, c4, c5⟩
                · exact .inl ⟨by simp [Instr.findNow, hs, c1], .cons a1 c2, .cons b1 c3⟩
                · exact .inr ⟨j + 1, e2, by simp [Instr.findNow, hs, c1]; omega, by simpa using c2, c3, .cons a1 c4, .cons b1 c5⟩
              · cases h
          · cases h

theorem mapUpdateC_ok (h : Rel E s w) (hG : GlobOk E G) (ht : TR E t a) {m k x : Operand} {ty : TypeId} (ho : o.op = .mapUpdate ty m k x) :
    OpOk P E s w o a (mapUpdateC P ty (evC G m) (evC G k) (evC G x) t s) := by
  have hm := evC_ok hG ht m
  have hk := evC_ok hG ht k
  have hx := evC_ok hG ht x
  generalize hmv : a.eval m = mv at hm
  generalize hkv : a.eval k = kv at hk
  generalize hxv : a.eval x = xv at hx
  cases hu : P.underlying ty with
  | none => simp only [mapUpdateC, hu]; trivial
  | some dd =>
    cases dd with
    | map kt e =>
      cases hd : keyT P kt with
      | none => simp only [mapUpdateC, hu, hd]; trivial
      | some d =>
        simp only [mapUpdateC, hu, hd]
        rcases Bool.eq_false_or_eq_true (isKey d (evC G k t)) with hq | hq
        · rw [cond_of_true hq]
          have hik := isKey_ok hq hk
          have hdesc := keyT_desc hd
          generalize hg : evC G m t = g at hm
          cases hm with
          | mp hl =>
            rename_i r b
            simp only
            split
            · rename_i es hes
              split
              · rename_i es' hes'
                obtain ⟨ents, clock, m1, m2, m3⟩ := h.mapo _ _ _ _ hes hl
                rcases putA_ok hk hx clock m2 m3 hes' 0 with ⟨c1, c2, c3⟩ | ⟨j, e2, c1, c2, c3, c4, c5⟩
                · refine ⟨_, E, ?_, Step.setMap h hes hl m1 (ents' := ents.push { key := kv, val := xv, born := clock }) (clock' := clock + 1) (by simpa using c2) (by simpa using c3)⟩
                  simp [execOp, ho, hmv, hkv, hxv, Instr.mapUpdate, run_underlying hu, MapKept.run_getObj_map m1, run_checkKey hdesc hik false 9999, run_findKey hdesc c1, MapKept.run_setObj_map _ m1, Result.andThen]
                · have hj : ents[j]? = some e2 := by simpa using c2
                  refine ⟨_, E, ?_, Step.setMap h hes hl m1 (ents' := ents.modify j fun (e : MapEntry) => { e with key := kv, val := xv }) (clock' := clock) (by simpa using c4) (by simpa using c5)⟩
                  simp only [Nat.zero_add] at c1
                  simp [execOp, ho, hmv, hkv, hxv, Instr.mapUpdate, run_underlying hu, MapKept.run_getObj_map m1, run_checkKey hdesc hik false 9999, run_findKey hdesc c1, hj, c3, MapKept.run_keyThatStays hik, MapKept.run_setObj_map _ m1, Result.andThen]
              · trivial
            · trivial
          | _ => trivial
        · rw [cond_of_false hq]; trivial
    | _ => simp only [mapUpdateC, hu]; trivial

theorem makeMapC_ok (h : Rel E s w) {ty : TypeId} (ho : o.op = .makeMap ty none) : OpOk P E s w o a (.val (.mp (some s.next)) (s.push (.mapo []))) :=
  .inl ⟨.map (some w.heap.size), w.alloc (.map #[] 0), E.add s.next w.heap.size 0 0, by simp [execOp, ho, Instr.makeMap, Result.andThen], Step.newMap h, .mp (by simp [Env.add])⟩

theorem makeFuncC_ok (h : Rel E s w) (hG : GlobOk E G) (ht : TR E t a) {f : Fn} {x y : Array Operand} (ho : o.op = .makeFunc f x y) :
    OpOk P E s w o a (.val (.fn f (evL G x.toList t) (evL G y.toList t)) s) := by
  refine .ofVal h (v := .func f ⟨x.toList.map a.eval⟩ ⟨y.toList.map a.eval⟩) ?_ (.fn (evL_ok hG ht _) (evL_ok hG ht _))
  have e1 : (⟨x.toList.map a.eval⟩ : Array Value) = x.map a.eval := by apply Array.ext'; simp
  have e2 : (⟨y.toList.map a.eval⟩ : Array Value) = y.map a.eval := by apply Array.ext'; simp
  rw [e1, e2]
  simp [execOp, ho, Instr.makeFunc]

theorem binC_ok (h : Rel E s w) (hG : GlobOk E G) (ht : TR E t a) {op : BinOp} {ty yt : TypeId} {x y : Operand} (ho : o.op = .binOp op ty x y yt) :
    OpOk P E s w o a (binC P G o op ty (evC G x) (evC G y) t s) := by
  have hx := evC_ok hG ht x
  have hy := evC_ok hG ht y
  unfold binC
  cases hi : intOp op with
  | none =>
    cases hs : strOp op <;> exact plainC_ok h hG ht (by intro cs b; rw [ho]; simp)
  | some f =>
    cases hs : strOp op with
    | none => exact binInt_ok h hG ht ho hi
    | some g =>
      simp only
      split
      · rename_i u v e1 e2
        rw [e1] at hx
        rw [e2] at hy
        generalize hu : a.eval x = u' at hx
        generalize hv : a.eval y = v' at hy
        cases hx with
        | str m =>
        cases hy with
        | str n =>
        obtain ⟨r, h1, h2⟩ := strOp_run (P := P) (E := E) (w := w) hs ty m n
        rcases h2 with h2 | h2
        · generalize g _ _ = z at h1
          unfold defO
          split
          · trivial
          · exact .ofVal h (run_binOp ho hu hv (eqGuard_str _ _ _ _ _ _) h2) h1
        · rw [h2]; trivial
      · exact binInt_ok h hG ht ho hi
end
end Go.Am
