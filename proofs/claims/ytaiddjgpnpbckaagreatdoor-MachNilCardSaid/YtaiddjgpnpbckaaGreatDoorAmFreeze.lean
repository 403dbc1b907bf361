/- A slice that a call has made and that nobody else knows may be taken for cells that stay. -/
import Derived.Test.YtaiddjgpnpbckaaGreatDoorAmPure
set_option autoImplicit false
namespace Go.Am

theorem Step.freeze {E E1 : Env} {s s1 : St} {w w' : World} (h0 : Rel E s w) (h : Step E s w E1 s1 w') (hs : ∀ r, r < s.next → s1.get r = s.get r) {r off len es : Nat} {tight : Bool} {v : Value}
    (hv : VR E1 (.sl r off len es tight) v) {o : Row} (ho : rowAt s1 r = some o) (hroot : s.next ≤ o.root) {cs : List AV} (hc : cutN (len * es) off o.vals = some cs) (hp : AV.plains cs = true) (hl0 : 0 < len) :
    ∃ E', Step E s w E' s w' ∧ VR E' (.lst cs len tight false) v := by
  have hd := h.drop h0 hs
  obtain ⟨ho1, ho2⟩ := rowAt_eq ho
  cases hv with
  | sl hloc hle ht ha =>
    rename_i b base cap a
    obtain ⟨c, ty, fz, g1, g2, g3, g4⟩ := h.rel.row r o b base ho1 hloc
    obtain ⟨_, vs, k1, k2⟩ := g4 ho2
    obtain ⟨e1, e2⟩ := takeN_eq hc
    have hlen : cs.length = len * es := cutN_len hc
    have hz1 : ∀ i, E1.z b i = none := fun i => by
      cases hx : E1.z b i with
      | none => rfl
      | some u => exact absurd hloc (h.rel.zap b i u r base hx)
    have hcs : VRL E1 cs ((vs.drop off).take (len * es)) := by rw [e1]; exact (k1.drop off).take _
    have hcs2 : VRL (E.cut E1) cs ((vs.drop off).take (len * es)) := VRL.plain (E := E.cut E1) (E1 := E1) (fun _ _ _ e => e) hcs hp
    have hnob : ∀ r0 base0, E.loc r0 ≠ some (b, base0) := fun r0 base0 e => by
      have hr0 := (h0.lt r0 b base0 e).1
      rcases h.rel.coh r0 r b base0 base (h.le.loc _ _ e) hloc with h1 | ⟨o1, o2, m1, m2, m3, _⟩
      · subst h1
        rw [hs _ hr0] at ho1
        obtain ⟨q, hq, _⟩ := h0.wf.root _ o ho1
        have := h0.wf.lt hq
        omega
      · rw [ho1] at m2; cases m2
        rw [hs _ hr0] at m1
        obtain ⟨q, hq, _⟩ := h0.wf.root _ o1 m1
        have := h0.wf.lt hq
        omega
    let E' : Env := { E.cut E1 with z := fun b2 i => if b2 = b then (if base + off ≤ i then ((vs.drop off).take (len * es))[i - (base + off)]? else none) else E1.z b2 i }
    have hle' : (E.cut E1).le E' := by
      refine ⟨fun _ _ e => e, fun b2 i u e => ?_, fun _ _ _ _ => rfl, fun _ _ e => e, rfl⟩
      have e : E1.z b2 i = some u := e
      show (if b2 = b then _ else E1.z b2 i) = some u
      rw [if_neg (fun e2 => by subst e2; rw [hz1] at e; cases e)]
      exact e
    have hzz : ∀ i u, ((vs.drop off).take (len * es))[i]? = some u → E'.z b (base + off + i) = some u := fun i u hu => by
      show (if b = b then (if base + off ≤ base + off + i then _ else _) else _) = some u
      rw [if_pos rfl, if_pos (by omega), show base + off + i - (base + off) = i by omega]
      exact hu
    have hcell : ∀ i u, ((vs.drop off).take (len * es))[i]? = some u → w'.cell? ⟨b, base + off + i, none⟩ = some u := fun i u hu => by
      rw [List.getElem?_take] at hu
      split at hu
      · rw [List.getElem?_drop] at hu
        have := k2 _ u hu
        rw [World.cell?, g1]
        simpa [Nat.add_assoc] using this
      · cases hu
    refine ⟨E', ⟨hd.le.trans hle', hd.old, hd.new, ?_, hd.un, hd.next, hd.fr, hd.os, hd.tape, hd.output, hd.size, hd.owns, hd.hids⟩, ?_⟩
    · refine ⟨hd.rel.wf, hd.rel.lt, hd.rel.obj, ?_, ?_, ?_, ?_, hd.rel.iter, hd.rel.coh, hd.rel.b0, hd.rel.hid, fun n k hk => ?_, hd.rel.hlt⟩
      rotate_right
      · obtain ⟨q1, q2, q3, q4⟩ := hd.rel.own n k hk
        refine ⟨q1, q2, fun i => ?_, q4⟩
        have hne : k ≠ b := fun e2 => by
          have hk : E1.own n k := hk
          exact (h.rel.own n k hk).2.1 r base (by rw [e2]; exact hloc)
        show (if k = b then _ else E1.z k i) = none
        rw [if_neg hne]; exact q3 i
      · intro b2 i u e
        have e : (if b2 = b then (if base + off ≤ i then ((vs.drop off).take (len * es))[i - (base + off)]? else none) else E1.z b2 i) = some u := e
        by_cases hb : b2 = b
        · subst hb
          rw [if_pos rfl] at e
          split at e
          · rename_i hi
            have := hcell _ u e
            rwa [show base + off + (i - (base + off)) = i by omega] at this
          · cases e
        · rw [if_neg hb] at e; exact h.rel.z b2 i u e
      · intro b2 i u q base2 e e2
        have e : (if b2 = b then (if base + off ≤ i then ((vs.drop off).take (len * es))[i - (base + off)]? else none) else E1.z b2 i) = some u := e
        by_cases hb : b2 = b
        · subst hb; exact hnob q base2 e2
        · rw [if_neg hb] at e; exact hd.rel.zap b2 i u q base2 e e2
      · intro q o2 b2 base2 e el
        obtain ⟨c2, ty2, fz2, m1, m2, m3, m4⟩ := hd.rel.row q o2 b2 base2 e el
        refine ⟨c2, ty2, fz2, m1, m2, m3, fun hv2 => ?_⟩
        obtain ⟨hz, us, u1, u2⟩ := m4 hv2
        exact ⟨hz, us, VRL.mono hle' u1, u2⟩
      · intro q es2 b2 base2 e el
        obtain ⟨ents, clock, m1, m2, m3⟩ := hd.rel.mapo q es2 b2 base2 e el
        exact ⟨ents, clock, m1, VRL.mono hle' m2, VRL.mono hle' m3⟩
    · obtain ⟨ea, _⟩ := ha (by omega)
      subst ea
      exact .lst (VRL.mono hle' hcs2) hle ht rfl (fun e => by cases e) fun _ => ⟨b, base + off, rfl, hzz⟩
end Go.Am
