/- What a call leaves behind and nobody knows may be forgotten. -/
import Derived.Test.YtaiddjgpnpbckaaGreatDoorAmCall
set_option autoImplicit false
namespace Go.Am

/-- Where things lay; what stays now. -/
def Env.cut (E E1 : Env) : Env := { loc := E.loc, z := E1.z, bsz := E1.bsz, hb := E.hb, own := E1.own, H := E1.H }

mutual
/-- A value known before, in a world of now. -/
theorem VR.cut {E E1 : Env} (hle : E.le E1) : ∀ {a : AV} {v0 v : Value}, VR E a v0 → VR E1 a v → VR (E.cut E1) a v
  | .int _ _, _, _, _, .int k n => .int k n
  | .bool _, _, _, _, .bool b => .bool b
  | .str _, _, _, _, .str s => .str s
  | .nilp, _, _, _, .nilp => .nilp
  | .ptr _ _, _, _, .ptr _ h0, .ptr off h => .ptr off (by rw [hle.loc _ _ h0] at h; cases h; exact h0)
  | .ptrL _ _, _, _, .ptrL _ h0 _, .ptrL off h hz => .ptrL off (VRL.cut hle h0 h) hz
  | .sl _ _ _ _ _, _, _, .sl h0 _ _ _, .sl h hl ht ha => .sl (by rw [hle.loc _ _ h0] at h; cases h; exact h0) hl ht ha
  | .lst _ _ _ _, _, _, .lst h0 _ _ _ _ _, .lst h hl ht hn hc hz => .lst (VRL.cut hle h0 h) hl ht hn hc hz
  | .mp none, _, _, _, .mpn => .mpn
  | .mp (some _), _, _, .mp h0, .mp h => .mp (by rw [hle.loc _ _ h0] at h; cases h; exact h0)
  | .hptr _, _, _, .hp h0, .hp h => .hp (by rw [hle.hb _ _ h0] at h; cases h; exact h0)
  | .fn _ _ _, _, _, .fn a0 b0, .fn a b => .fn (VRL.cut hle a0 a) (VRL.cut hle b0 b)
  | .nilfn, _, _, _, .nilfn => .nilfn
  | .ifc _ _, _, _, .ifc h0, .ifc h => .ifc (VR.cut hle h0 h)
  | .nilifc, _, _, _, .nilifc => .nilifc
  | .agg _, _, _, .agg h0, .agg h => .agg (VRL.cut hle h0 h)
  | .tup _, _, _, .tup h0, .tup h => .tup (VRL.cut hle h0 h)
  | .undef, _, _, _, .undef v => .undef v
theorem VRL.cut {E E1 : Env} (hle : E.le E1) : ∀ {l : List AV} {r0 r : List Value}, VRL E l r0 → VRL E1 l r → VRL (E.cut E1) l r
  | [], _, _, _, .nil => .nil
  | _ :: _, _, _, .cons h0 t0, .cons h t => .cons (VR.cut hle h0 h) (VRL.cut hle t0 t)
end

theorem Step.drop {E E1 : Env} {s s1 : St} {w w' : World} (h0 : Rel E s w) (h : Step E s w E1 s1 w') (hs : ∀ r, r < s.next → s1.get r = s.get r) : Step E s w (E.cut E1) s w' := by
  have hloc : ∀ r p, E.loc r = some p → E1.loc r = some p := h.le.loc
  have hlt : ∀ r p, E.loc r = some p → r < s.next := fun r p e => (h0.lt r p.1 p.2 e).1
  refine ⟨⟨fun r p e => e, h.le.z, h.le.bsz, fun _ _ e => e, h.le.H⟩, fun _ _ => rfl, fun r b base e => .inr ⟨r, base, e⟩, ?_, fun _ _ _ _ _ => rfl, Nat.le_refl _, h.fr, h.os, h.tape, h.output, h.size, h.owns, fun _ d e => ⟨d, e⟩⟩
  refine ⟨h0.wf, fun r b base e => ⟨(h0.lt r b base e).1, Nat.lt_of_lt_of_le (h0.lt r b base e).2 h.size⟩, h0.obj, h.rel.z, fun b o v r base e e2 => h.rel.zap b o v r base e (hloc r _ e2), ?_, ?_, ?_, h0.coh, h0.b0,
    fun n d b e eb w1 hw => h.rel.hid n d b (by rw [hs n (h0.hlt n b eb).1]; exact e) (h.le.hb n b eb) w1 hw, fun n c hc => ?_, h0.hlt⟩
  rotate_right
  · obtain ⟨o1, o2, o3⟩ := h.rel.own n c hc
    exact ⟨o1, fun r base e => o2 r base (hloc r _ e), o3⟩
  · intro r o b base e el
    obtain ⟨c, ty, fz, g1, g2, g3, g4⟩ := h.rel.row r o b base (by rw [hs r (hlt r _ el)]; exact e) (hloc r _ el)
    obtain ⟨_, _, _, _, _, _, k4⟩ := h0.row r o b base e el
    refine ⟨c, ty, fz, g1, g2, g3, fun hv => ?_⟩
    have hv1 : valid s1 o = true := by
      obtain ⟨q, hq, _⟩ := h0.wf.root r o e
      rw [valid_congr (hs o.root (h0.wf.lt hq))]; exact hv
    obtain ⟨hz, vs, m1, m2⟩ := g4 hv1
    obtain ⟨_, vs0, n1, _⟩ := k4 hv
    exact ⟨hz, vs, VRL.cut h.le n1 m1, m2⟩
  · intro r es b base e el
    obtain ⟨ents, clock, g1, g2, g3⟩ := h.rel.mapo r es b base (by rw [hs r (hlt r _ el)]; exact e) (hloc r _ el)
    obtain ⟨_, _, _, k2, k3⟩ := h0.mapo r es b base e el
    exact ⟨ents, clock, g1, VRL.cut h.le k2 g2, VRL.cut h.le k3 g3⟩
  · intro r x n b base e el
    exact h.rel.iter r x n b base (by rw [hs r (hlt r _ el)]; exact e) (hloc r _ el)

mutual
/-- it leads to nothing that is numbered -/
def AV.plain : AV → Bool
  | .ptr _ _ | .sl _ _ _ _ _ | .mp (some _) | .hptr _ => false
  | .ptrL l _ | .lst l _ _ _ | .agg l | .tup l => AV.plains l
  | .fn _ a b => AV.plains a && AV.plains b
  | .ifc _ v => AV.plain v
  | _ => true
def AV.plains : List AV → Bool
  | [] => true
  | a :: l => AV.plain a && AV.plains l
end

mutual
theorem VR.plain {E E1 : Env} (hz : ∀ b o v, E1.z b o = some v → E.z b o = some v) : ∀ {a : AV} {v : Value}, VR E1 a v → a.plain = true → VR E a v
  | _, _, .int k n, _ => .int k n
  | _, _, .bool b, _ => .bool b
  | _, _, .str s, _ => .str s
  | _, _, .nilp, _ => .nilp
  | _, _, .ptr _ _, p => by simp [AV.plain] at p
  | _, _, .ptrL off h k, p => .ptrL off (VRL.plain hz h (by simpa [AV.plain] using p)) (fun i v e => hz _ _ _ (k i v e))
  | _, _, .sl _ _ _ _, p => by simp [AV.plain] at p
  | _, _, .lst h hl ht hn hc k, p => .lst (VRL.plain hz h (by simpa [AV.plain] using p)) hl ht hn hc (fun hv => let ⟨b, base, ea, hb⟩ := k hv; ⟨b, base, ea, fun i v e => hz _ _ _ (hb i v e)⟩)
  | _, _, .mpn, _ => .mpn
  | _, _, .mp _, p => by simp [AV.plain] at p
  | _, _, .hp _, p => by simp [AV.plain] at p
  | _, _, .fn a b, p => by
    simp [AV.plain] at p
    exact .fn (VRL.plain hz a p.1) (VRL.plain hz b p.2)
  | _, _, .nilfn, _ => .nilfn
  | _, _, .ifc h, p => .ifc (VR.plain hz h (by simpa [AV.plain] using p))
  | _, _, .nilifc, _ => .nilifc
  | _, _, .agg h, p => .agg (VRL.plain hz h (by simpa [AV.plain] using p))
  | _, _, .tup h, p => .tup (VRL.plain hz h (by simpa [AV.plain] using p))
  | _, _, .undef v, _ => .undef v
theorem VRL.plain {E E1 : Env} (hz : ∀ b o v, E1.z b o = some v → E.z b o = some v) : ∀ {l : List AV} {r : List Value}, VRL E1 l r → AV.plains l = true → VRL E l r
  | _, _, .nil, _ => .nil
  | _, _, .cons h t, p => by
    simp [AV.plains] at p
    exact .cons (VR.plain hz h p.1) (VRL.plain hz t p.2)
end

/-- A function of values: what it makes besides is forgotten. -/
def pureX (F : List AV → Option AV) : List AV → St → Res := fun args s => match F args with | some x => .ret x s | none => .fail

theorem pure_known {P : Program} {G : Glob} (hm : P.follows .mixedOrders = true) (hn : NoNG P) {X : Known} (hX : KnownOk P G X) {loops n : Nat} {f : FuncId} {F : List AV → Option AV}
    (hF : ∀ args s x, Wf s → F args = some x → ∃ s1, bodyC P G (callN P G X loops n) loops P.funcs[f]? args s = .ret x s1 ∧ (∀ r, r < s.next → s1.get r = s.get r) ∧ x.plain = true) :
    ∀ (args : List AV) (s : St) (E : Env) (w : World) (vs : List Value), Rel E s w → GlobOk E G → VRL E args vs → ResOk P E s w f vs (pureX F args s) := by
  intro args s E w vs h hG ha
  unfold pureX
  cases hx : F args with
  | none => trivial
  | some x =>
    obtain ⟨s1, h1, h2, h3⟩ := hF args s x h.wf hx
    have := bodyC_ok hm hn (callN_ok hm hn hX loops n) loops f args s E w vs h hG ha
    rw [h1] at this
    rcases this with ⟨h4, h5⟩ | ⟨v', w', E', h4, h5, h6⟩
    · exact .inl ⟨h4, Calls.mono h5 fun e w' ⟨v', E', he, hs, hv⟩ => ⟨v', E.cut E', he, hs.drop h h2, VR.plain (E := E.cut E') (E1 := E') (fun _ _ _ e => e) hv h3⟩⟩
    · exact .inr ⟨v', w', E.cut E', h4, h5.drop h h2, VR.plain (E := E.cut E') (E1 := E') (fun _ _ _ e => e) h6 h3⟩
end Go.Am
