/- What is known by its meaning alone: the functions that see how it lies. -/
import Derived.Test.YtaiddjgpnpbckaaGreatDoorAmHid
set_option autoImplicit false
namespace Go.Am

mutual
/-- it leads to rows of a set alone -/
def AV.inN (N : Nat → Prop) : AV → Prop
  | .ptr r _ | .sl r _ _ _ _ | .mp (some r) => N r
  | .hptr _ | .ptrL _ _ | .lst (_ :: _) _ _ _ => False
  | .agg l | .tup l => AV.insN N l
  | .fn _ a b => AV.insN N a ∧ AV.insN N b
  | .ifc _ v => AV.inN N v
  | _ => True
def AV.insN (N : Nat → Prop) : List AV → Prop
  | [] => True
  | a :: l => AV.inN N a ∧ AV.insN N l
end

mutual
theorem VR.inN {E E1 : Env} {N : Nat → Prop} (hl : ∀ r p, N r → E1.loc r = some p → E.loc r = some p) (hb : E.bsz = E1.bsz) : ∀ {a : AV} {v : Value}, VR E1 a v → a.inN N → VR E a v
  | _, _, .int k n, _ => .int k n
  | _, _, .bool b, _ => .bool b
  | _, _, .str s, _ => .str s
  | _, _, .nilp, _ => .nilp
  | _, _, .ptr off h, p => .ptr off (hl _ _ (by simpa [AV.inN] using p) h)
  | _, _, .ptrL _ _ _, p => by simp [AV.inN] at p
  | _, _, .sl h h1 h2 h3, p => .sl (hl _ _ (by simpa [AV.inN] using p) h) h1 h2 (by rw [hb]; exact h3)
  | _, _, .lst .nil h1 h2 h3 h4 _, _ => .lst .nil h1 h2 h3 h4 (fun h => absurd rfl h)
  | _, _, .lst (.cons _ _) _ _ _ _ _, p => by simp [AV.inN] at p
  | _, _, .mpn, _ => .mpn
  | _, _, .mp h, p => .mp (hl _ _ (by simpa [AV.inN] using p) h)
  | _, _, .hp _, p => by simp [AV.inN] at p
  | _, _, .fn a b, p => by
    simp [AV.inN] at p
    exact .fn (VRL.inN hl hb a p.1) (VRL.inN hl hb b p.2)
  | _, _, .nilfn, _ => .nilfn
  | _, _, .ifc h, p => .ifc (VR.inN hl hb h (by simpa [AV.inN] using p))
  | _, _, .nilifc, _ => .nilifc
  | _, _, .agg h, p => .agg (VRL.inN hl hb h (by simpa [AV.inN] using p))
  | _, _, .tup h, p => .tup (VRL.inN hl hb h (by simpa [AV.inN] using p))
  | _, _, .undef v, _ => .undef v
theorem VRL.inN {E E1 : Env} {N : Nat → Prop} (hl : ∀ r p, N r → E1.loc r = some p → E.loc r = some p) (hb : E.bsz = E1.bsz) : ∀ {l : List AV} {r : List Value}, VRL E1 l r → AV.insN N l → VRL E l r
  | _, _, .nil, _ => .nil
  | _, _, .cons h t, p => by
    simp [AV.insN] at p
    exact .cons (VR.inN hl hb h p.1) (VRL.inN hl hb t p.2)
end

/-- A set of rows and maps that lead to one another alone. -/
def Sealed (s : St) (N : Nat → Prop) : Prop :=
  (∀ r o, N r → s.get r = some (.row o) → valid s o = true → AV.insN N o.vals) ∧
    (∀ r es, N r → s.get r = some (.mapo es) → AV.insN N (es.map (·.1)) ∧ AV.insN N (es.map (·.2))) ∧ ∀ r d, N r → s.get r ≠ some (.hid d)

/-- A thing lies somewhere, in blocks of its own, and a state of the second meaning tells how. -/
def Conc (R : Hid → St → (Nat → Prop) → Prop) (d : Hid) (b : Nat) (own : Nat → Prop) (w : World) : Prop :=
  ∃ (E1 : Env) (s1 : St) (N : Nat → Prop), R d s1 N ∧ N 0 ∧ E1.loc 0 = some (b, 0) ∧ (∀ r c base, E1.loc r = some (c, base) → N r ∧ own c) ∧ Rel E1 s1 w ∧ Sealed s1 N ∧
    (∀ n c, ¬ E1.own n c) ∧ (∀ n, E1.hb n = none) ∧ ∀ c o, E1.z c o = none

/-- What is left of a place where all lay, for the rows of a set. -/
noncomputable def Env.only (E : Env) (N : Nat → Prop) : Env :=
  open Classical in { loc := fun r => if N r then E.loc r else .none, z := fun _ _ => .none, bsz := E.bsz, hb := fun _ => .none, own := fun _ _ => False, H := E.H }

mutual
/-- Cells that stay may be more. -/
theorem VR.reH {E : Env} {z : Nat → Nat → Option Value} {H : Hid → Nat → (Nat → Prop) → World → Prop} (hz : ∀ b o v, E.z b o = some v → z b o = some v) : ∀ {a : AV} {v : Value}, VR E a v → VR { E with z := z, H := H } a v
  | _, _, .int k n => .int k n
  | _, _, .bool b => .bool b
  | _, _, .str s => .str s
  | _, _, .nilp => .nilp
  | _, _, .ptr off h => .ptr off h
  | _, _, .ptrL off h k => .ptrL off (VRL.reH hz h) (fun i v e => hz _ _ _ (k i v e))
  | _, _, .sl h h1 h2 h3 => .sl h h1 h2 h3
  | _, _, .lst h h1 h2 h3 h4 k => .lst (VRL.reH hz h) h1 h2 h3 h4 (fun hv => let ⟨b, base, ea, hb⟩ := k hv; ⟨b, base, ea, fun i v e => hz _ _ _ (hb i v e)⟩)
  | _, _, .mpn => .mpn
  | _, _, .mp h => .mp h
  | _, _, .hp h => .hp h
  | _, _, .fn a b => .fn (VRL.reH hz a) (VRL.reH hz b)
  | _, _, .nilfn => .nilfn
  | _, _, .ifc h => .ifc (VR.reH hz h)
  | _, _, .nilifc => .nilifc
  | _, _, .agg h => .agg (VRL.reH hz h)
  | _, _, .tup h => .tup (VRL.reH hz h)
  | _, _, .undef v => .undef v
theorem VRL.reH {E : Env} {z : Nat → Nat → Option Value} {H : Hid → Nat → (Nat → Prop) → World → Prop} (hz : ∀ b o v, E.z b o = some v → z b o = some v) : ∀ {l : List AV} {r : List Value}, VRL E l r → VRL { E with z := z, H := H } l r
  | _, _, .nil => .nil
  | _, _, .cons h t => .cons (VR.reH hz h) (VRL.reH hz t)
end

section
variable {E : Env} {s : St} {w : World}

theorem only_loc {N : Nat → Prop} {r : Nat} {p : Nat × Nat} (h : (E.only N).loc r = some p) : N r ∧ E.loc r = some p := by
  unfold Env.only at h
  simp only at h
  split at h
  · exact ⟨by assumption, h⟩
  · cases h
theorem only_in {N : Nat → Prop} {r : Nat} (h : N r) : (E.only N).loc r = E.loc r := by unfold Env.only; simp only; rw [if_pos h]

/-- In whatever world holds the blocks as they are. -/
theorem Rel.only (h : Rel E s w) {N : Nat → Prop} (hc : Sealed s N) {w1 : World} (hw : ∀ r c base, N r → E.loc r = some (c, base) → w1.heap[c]? = w.heap[c]?) : Rel (E.only N) s w1 where
  wf := h.wf
  lt r b base e := by
    obtain ⟨n1, n2⟩ := only_loc e
    have := h.lt r b base n2
    refine ⟨this.1, ?_⟩
    rcases Nat.lt_or_ge b w1.heap.size with h1 | h1
    · exact h1
    · have h2 := hw r b base n1 n2
      rw [Array.getElem?_eq_none h1, Array.getElem?_eq_getElem this.2] at h2
      cases h2
  obj r p e := h.obj r p (only_loc e).2
  z b o v e := by cases e
  zap b o v r base e := by cases e
  row r o b base e el := by
    obtain ⟨n1, n2⟩ := only_loc el
    obtain ⟨c, ty, fz, g1, g2, g3, g4⟩ := h.row r o b base e n2
    refine ⟨c, ty, fz, (hw r b base n1 n2).trans g1, g2, g3, fun hv => ?_⟩
    obtain ⟨hz, vs, k1, k2⟩ := g4 hv
    exact ⟨hz, vs, VRL.inN (E := E.only N) (E1 := E) (fun r p hn hl => by rw [only_in hn]; exact hl) rfl k1 (hc.1 r o n1 e hv), k2⟩
  mapo r es b base e el := by
    obtain ⟨n1, n2⟩ := only_loc el
    obtain ⟨ents, clock, g1, g2, g3⟩ := h.mapo r es b base e n2
    obtain ⟨c1, c2⟩ := hc.2.1 r es n1 e
    exact ⟨ents, clock, (hw r b base n1 n2).trans g1, VRL.inN (E := E.only N) (E1 := E) (fun r p hn hl => by rw [only_in hn]; exact hl) rfl g2 c1, VRL.inN (E := E.only N) (E1 := E) (fun r p hn hl => by rw [only_in hn]; exact hl) rfl g3 c2⟩
  iter r x n b base e el := h.iter r x n b base e (only_loc el).2
  coh r1 r2 b b1 b2 e1 e2 := h.coh r1 r2 b b1 b2 (only_loc e1).2 (only_loc e2).2
  b0 r o b base e el := h.b0 r o b base e (only_loc el).2
  hid n d b _ e := by cases e
  own n c e := e.elim
  hlt n b e := by cases e

/-- the same place, with other cells that stay -/
theorem Rel.withZ {E1 : Env} {s1 : St} (h : Rel E1 s1 w) (ho : ∀ n c, ¬ E1.own n c) (hh : ∀ n, E1.hb n = none) {z : Nat → Nat → Option Value} (hz : ∀ b o v, z b o = some v → w.cell? ⟨b, o, none⟩ = some v)
    (hzap : ∀ b o v r base, z b o = some v → E1.loc r ≠ some (b, base)) (H : Hid → Nat → (Nat → Prop) → World → Prop) (h1z : ∀ c o, E1.z c o = none) : Rel { E1 with z := z, H := H } s1 w where
  wf := h.wf
  lt := h.lt
  obj := h.obj
  z := hz
  zap := hzap
  row r o b base e el := by
    obtain ⟨c, ty, fz, g1, g2, g3, g4⟩ := h.row r o b base e el
    refine ⟨c, ty, fz, g1, g2, g3, fun hv => ?_⟩
    obtain ⟨k0, vs, k1, k2⟩ := g4 hv
    refine ⟨k0, vs, ?_, k2⟩
    exact VRL.reH (fun b o v e => by rw [h1z] at e; cases e) k1
  mapo r es b base e el := by
    obtain ⟨ents, clock, g1, g2, g3⟩ := h.mapo r es b base e el
    exact ⟨ents, clock, g1, VRL.reH (fun b o v e => by rw [h1z] at e; cases e) g2, VRL.reH (fun b o v e => by rw [h1z] at e; cases e) g3⟩
  iter := h.iter
  coh := h.coh
  b0 := h.b0
  hid n d b _ e := by have e : E1.hb n = some b := e; rw [hh] at e; cases e
  own n c e := absurd e (ho n c)
  hlt n b e := by have e : E1.hb n = some b := e; rw [hh] at e; cases e
end

/-- What a function that sees how a thing lies does to it. -/
theorem base_known {P : Program} {G : Glob} {R : Hid → St → (Nat → Prop) → Prop} (hGH : G.H = Conc R) (hm : P.follows .mixedOrders = true) (hn : NoNG P) (hp : GlobPlain G) {X : Known} (hX : KnownOk P G X) {D : Live} {m loops n : Nat} {f : FuncId} {F : Hid → List AV → Option (AV × Hid)}
    (hF : ∀ d s N as x d', R d s N → N 0 → Wf s → Sealed s N → F d as = some (x, d') → x.flat = true ∧ ∃ s', bodyD P G (callN P G X loops n) D m P.funcs[f]? (.ptr 0 0 :: as) s = .ret x s' ∧ ∃ N', R d' s' N' ∧ N' 0 ∧ (Wf s' → Sealed s' N')) : HidOk P G f F := by
  intro args s E w vs h hG ha
  unfold hidX
  split
  · rename_i k rest
    cases ha with
    | cons ha1 ha2 =>
      cases ha1 with
      | hp hb =>
        rename_i b
        split
        · rename_i d hd
          split
          · rename_i as has
            split
            · rename_i x d' hx
              have hH := h.hid k d b hd hb w (fun _ _ => rfl)
              rw [hG.2, hGH] at hH
              obtain ⟨E1, s1, N, r1, r2, r3, r4, r5, r6, r7, r8, r9⟩ := hH
              obtain ⟨f1, s1', f2, N', f3, f4, f5⟩ := hF d s1 N as x d' r1 r2 r5.wf r6 hx
              have hrel := r5.withZ r7 r8 (z := E.stay w) (fun b o v e => stay_cell h e) (fun b o v r base e el => by
                rw [stay_own h (r4 r b base el).2] at e; cases e) E.H r9
              have hz : ∀ b o v, E.stay w b o = some v → ({ E1 with z := E.stay w, H := E.H } : Env).z b o = some v := fun _ _ _ e => e
              have hr := bodyD_ok (D := D) hm hn (callN_ok hm hn hX loops n) m f (.ptr 0 0 :: as) s1 { E1 with z := E.stay w, H := E.H } w _ hrel (GlobOk.one h hp hG hz rfl)
                (.cons (.ptr (base := 0) 0 r3) (convL_ok h hz has ha2))
              rw [f2] at hr
              have fin : ∀ (w' : World) (E' : Env) (v' : Value), Step { E1 with z := E.stay w, H := E.H } s1 w E' s1' w' → VR E' x v' → ∃ E2, Step E s w E2 (s.set k (.hid d')) w' ∧ VR E2 x v' := by
                intro w' E' v' hs hv
                have hcl := f5 hs.rel.wf
                refine ⟨_, Step.turned h hd hb (own := fun c => E.own k c ∨ ∃ r base, N' r ∧ E'.loc r = some (c, base)) (fun c hc ho => hs.fr c hc (fun r base e => ho (r4 r c base e).2) (fun n e => r7 n c e)) hs.size hs.os hs.tape hs.output (fun c hc => ?_) fun w1 hw => ?_, hv.flat f1⟩
                · rcases hc with hc | ⟨r, base, _, hc⟩
                  · exact ⟨Nat.lt_of_lt_of_le (h.own k c hc).1 hs.size, .inl hc⟩
                  · refine ⟨(hs.rel.lt r c base hc).2, ?_⟩
                    rcases hs.new r c base hc with h1 | ⟨r0, base0, h1⟩
                    · exact .inr h1
                    · exact .inl (r4 r0 c base0 h1).2
                · rw [hG.2, hGH]
                  refine ⟨E'.only N', s1', N', f3, f4, ?_, fun r c base e => ?_, hs.rel.only hcl fun r c base hn hl => hw c (.inr ⟨r, base, hn, hl⟩), hcl, fun _ _ e => e, fun _ => rfl, fun _ _ => rfl⟩
                  · rw [only_in f4]; exact hs.le.loc 0 _ r3
                  · obtain ⟨n1, n2⟩ := only_loc e
                    exact ⟨n1, .inr ⟨r, base, n1, n2⟩⟩
              rcases hr with ⟨h4, h5⟩ | ⟨v', w', E', h4, h5, h6⟩
              · exact .inl ⟨h4, Calls.mono h5 fun e w' ⟨v', E', he, hs, hv⟩ => by
                  obtain ⟨E2, k1, k2⟩ := fin w' E' v' hs hv
                  exact ⟨v', E2, he, k1, k2⟩⟩
              · obtain ⟨E2, k1, k2⟩ := fin w' E' v' h5 h6
                exact .inr ⟨v', w', E2, h4, k1, k2⟩
            · trivial
          · trivial
        · trivial
  · trivial
end Go.Am
