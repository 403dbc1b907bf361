/- What a call leaves behind and nobody knows may be forgotten. -/
import Derived.Test.YtlibahklbbachaaGreatDoorAmE
import Derived.Lib.Builder
section
set_option autoImplicit false
namespace Go.Am

/-- Where things lay; what stays now. -/
def Env.cut (E E1 : Env) : Env := { loc := E.loc, z := E1.z, bsz := E1.bsz, hb := E.hb, own := E1.own, H := E1.H }

mutual
/-- A value known before, in a world of now. -/
theorem VR.cut {E E1 : Env} (hle : E.le E1) : ∀ {a : AV} {v0 v : Value}, VR E a v0 → VR E1 a v → VR (E.cut E1) a v
  | .int _ _, _, _, _, .int k n => .int k n
  | .bool _, _, _, _, .bool b => .bool b
  | .str _, _, _, _, .str s => .str s
  | .nilp, _, _, _, .nilp => .nilp
  | .ptr _ _, _, _, .ptr _ h0, .ptr off h => .ptr off (by rw [hle.loc _ _ h0] at h; cases h; exact h0)
  | .ptrL _ _, _, _, .ptrL _ h0 _, .ptrL off h hz => .ptrL off (VRL.cut hle h0 h) hz
  | .sl _ _ _ _ _, _, _, .sl h0 _ _ _, .sl h hl ht ha => .sl (by rw [hle.loc _ _ h0] at h; cases h; exact h0) hl ht ha
  | .lst _ _ _ _, _, _, .lst h0 _ _ _ _ _, .lst h hl ht hn hc hz => .lst (VRL.cut hle h0 h) hl ht hn hc hz
  | .mp none, _, _, _, .mpn => .mpn
  | .mp (some _), _, _, .mp h0, .mp h => .mp (by rw [hle.loc _ _ h0] at h; cases h; exact h0)
  | .hptr _, _, _, .hp h0, .hp h => .hp (by rw [hle.hb _ _ h0] at h; cases h; exact h0)
  | .fn _ _ _, _, _, .fn a0 b0, .fn a b => .fn (VRL.cut hle a0 a) (VRL.cut hle b0 b)
  | .nilfn, _, _, _, .nilfn => .nilfn
  | .ifc _ _, _, _, .ifc h0, .ifc h => .ifc (VR.cut hle h0 h)
  | .nilifc, _, _, _, .nilifc => .nilifc
  | .agg _, _, _, .agg h0, .agg h => .agg (VRL.cut hle h0 h)
  | .tup _, _, _, .tup h0, .tup h => .tup (VRL.cut hle h0 h)
  | .lit _, _, _, _, .lit v h => .lit v h
  | .undef, _, _, _, .undef v => .undef v
theorem VRL.cut {E E1 : Env} (hle : E.le E1) : ∀ {l : List AV} {r0 r : List Value}, VRL E l r0 → VRL E1 l r → VRL (E.cut E1) l r
  | [], _, _, _, .nil => .nil
  | _ :: _, _, _, .cons h0 t0, .cons h t => .cons (VR.cut hle h0 h) (VRL.cut hle t0 t)
end

theorem Step.drop {E E1 : Env} {s s1 : St} {w w' : World} (h0 : Rel E s w) (h : Step E s w E1 s1 w') (hs : ∀ r, r < s.next → s1.get r = s.get r) : Step E s w (E.cut E1) s w' := by
  have hloc : ∀ r p, E.loc r = some p → E1.loc r = some p := h.le.loc
  have hlt : ∀ r p, E.loc r = some p → r < s.next := fun r p e => (h0.lt r p.1 p.2 e).1
  refine ⟨⟨fun r p e => e, h.le.z, h.le.bsz, fun _ _ e => e, h.le.H⟩, fun _ _ => rfl, fun r b base e => .inr ⟨r, base, e⟩, ?_, fun _ _ _ _ _ => rfl, Nat.le_refl _, h.fr, h.os, h.tape, h.output, h.size, h.owns, fun _ d e => ⟨d, e⟩⟩
  refine ⟨h0.wf, fun r b base e => ⟨(h0.lt r b base e).1, Nat.lt_of_lt_of_le (h0.lt r b base e).2 h.size⟩, h0.obj, h.rel.z, fun b o v r base e e2 => h.rel.zap b o v r base e (hloc r _ e2), ?_, ?_, ?_, h0.coh, h0.b0,
    fun n d b e eb w1 hw => h.rel.hid n d b (by rw [hs n (h0.hlt n b eb).1]; exact e) (h.le.hb n b eb) w1 hw, fun n c hc => ?_, h0.hlt⟩
  rotate_right
  · obtain ⟨o1, o2, o3⟩ := h.rel.own n c hc
    exact ⟨o1, fun r base e => o2 r base (hloc r _ e), o3⟩
  · intro r o b base e el
    obtain ⟨c, ty, fz, g1, g2, g3, g4⟩ := h.rel.row r o b base (by rw [hs r (hlt r _ el)]; exact e) (hloc r _ el)
    obtain ⟨_, _, _, _, _, _, k4⟩ := h0.row r o b base e el
    refine ⟨c, ty, fz, g1, g2, g3, fun hv => ?_⟩
    have hv1 : valid s1 o = true := by
      obtain ⟨q, hq, _⟩ := h0.wf.root r o e
      rw [valid_congr (hs o.root (h0.wf.lt hq))]; exact hv
    obtain ⟨hz, vs, m1, m2⟩ := g4 hv1
    obtain ⟨_, vs0, n1, _⟩ := k4 hv
    exact ⟨hz, vs, VRL.cut h.le n1 m1, m2⟩
  · intro r es b base e el
    obtain ⟨ents, clock, g1, g2, g3⟩ := h.rel.mapo r es b base (by rw [hs r (hlt r _ el)]; exact e) (hloc r _ el)
    obtain ⟨_, _, _, k2, k3⟩ := h0.mapo r es b base e el
    exact ⟨ents, clock, g1, VRL.cut h.le k2 g2, VRL.cut h.le k3 g3⟩
  · intro r x n b base e el
    exact h.rel.iter r x n b base (by rw [hs r (hlt r _ el)]; exact e) (hloc r _ el)

mutual
/-- it leads to nothing that is numbered -/
def AV.plain : AV → Bool
  | .ptr _ _ | .sl _ _ _ _ _ | .mp (some _) | .hptr _ => false
  | .ptrL l _ | .lst l _ _ _ | .agg l | .tup l => AV.plains l
  | .fn _ a b => AV.plains a && AV.plains b
  | .ifc _ v => AV.plain v
  | _ => true
def AV.plains : List AV → Bool
  | [] => true
  | a :: l => AV.plain a && AV.plains l
end

mutual
theorem VR.plain {E E1 : Env} (hz : ∀ b o v, E1.z b o = some v → E.z b o = some v) : ∀ {a : AV} {v : Value}, VR E1 a v → a.plain = true → VR E a v
  | _, _, .int k n, _ => .int k n
  | _, _, .bool b, _ => .bool b
  | _, _, .str s, _ => .str s
  | _, _, .nilp, _ => .nilp
  | _, _, .ptr _ _, p => by simp [AV.plain] at p
  | _, _, .ptrL off h k, p => .ptrL off (VRL.plain hz h (by simpa [AV.plain] using p)) (fun i v e => hz _ _ _ (k i v e))
  | _, _, .sl _ _ _ _, p => by simp [AV.plain] at p
  | _, _, .lst h hl ht hn hc k, p => .lst (VRL.plain hz h (by simpa [AV.plain] using p)) hl ht hn hc (fun hv => let ⟨b, base, ea, hb⟩ := k hv; ⟨b, base, ea, fun i v e => hz _ _ _ (hb i v e)⟩)
  | _, _, .mpn, _ => .mpn
  | _, _, .mp _, p => by simp [AV.plain] at p
  | _, _, .hp _, p => by simp [AV.plain] at p
  | _, _, .fn a b, p => by
    simp [AV.plain] at p
    exact .fn (VRL.plain hz a p.1) (VRL.plain hz b p.2)
  | _, _, .nilfn, _ => .nilfn
  | _, _, .ifc h, p => .ifc (VR.plain hz h (by simpa [AV.plain] using p))
  | _, _, .nilifc, _ => .nilifc
  | _, _, .agg h, p => .agg (VRL.plain hz h (by simpa [AV.plain] using p))
  | _, _, .tup h, p => .tup (VRL.plain hz h (by simpa [AV.plain] using p))
  | _, _, .lit v h, _ => .lit v h
  | _, _, .undef v, _ => .undef v
theorem VRL.plain {E E1 : Env} (hz : ∀ b o v, E1.z b o = some v → E.z b o = some v) : ∀ {l : List AV} {r : List Value}, VRL E1 l r → AV.plains l = true → VRL E l r
  | _, _, .nil, _ => .nil
  | _, _, .cons h t, p => by
    simp [AV.plains] at p
    exact .cons (VR.plain hz h p.1) (VRL.plain hz t p.2)
end

/-- A function of values: what it makes besides is forgotten. -/
def pureX (F : List AV → Option AV) : List AV → St → Res := fun args s => match F args with | some x => .ret x s | none => .fail

theorem pure_known {P : Program} {G : Glob} (hm : P.follows .mixedOrders = true) (hn : NoNG P) {X : Known} (hX : KnownOk P G X) {loops n : Nat} {f : FuncId} {F : List AV → Option AV}
    (hF : ∀ args s x, Wf s → F args = some x → ∃ s1, bodyC P G (callN P G X loops n) loops P.funcs[f]? args s = .ret x s1 ∧ (∀ r, r < s.next → s1.get r = s.get r) ∧ x.plain = true) :
    ∀ (args : List AV) (s : St) (E : Env) (w : World) (vs : List Value), Rel E s w → GlobOk E G w → VRL E args vs → ResOk P E s w f vs (pureX F args s) := by
  intro args s E w vs h hG ha
  unfold pureX
  cases hx : F args with
  | none => trivial
  | some x =>
    obtain ⟨s1, h1, h2, h3⟩ := hF args s x h.wf hx
    have := bodyC_ok hm hn (callN_ok hm hn hX loops n) loops f args s E w vs h hG ha
    rw [h1] at this
    rcases this with ⟨h4, h5⟩ | ⟨v', w', E', h4, h5, h6⟩
    · exact .inl ⟨h4, Calls.mono h5 fun e w' ⟨v', E', he, hs, hv⟩ => ⟨v', E.cut E', he, hs.drop h h2, VR.plain (E := E.cut E') (E1 := E') (fun _ _ _ e => e) hv h3⟩⟩
    · exact .inr ⟨v', w', E.cut E', h4, h5.drop h h2, VR.plain (E := E.cut E') (E1 := E') (fun _ _ _ e => e) h6 h3⟩
end Go.Am
end
section
set_option autoImplicit false
namespace Go.Am

mutual
/-- it leads to nothing that is numbered from nb on -/
def AV.under (nb : Nat) : AV → Bool
  | .ptr r _ | .sl r _ _ _ _ | .mp (some r) | .hptr r => Nat.blt r nb
  | .ptrL l _ | .lst l _ _ _ | .agg l | .tup l => AV.unders nb l
  | .fn _ a b => AV.unders nb a && AV.unders nb b
  | .ifc _ v => AV.under nb v
  | _ => true
def AV.unders (nb : Nat) : List AV → Bool
  | [] => true
  | a :: l => AV.under nb a && AV.unders nb l
end

mutual
theorem VR.under {E E1 : Env} {nb : Nat} (hl : ∀ r, r < nb → E.loc r = E1.loc r) (hh : ∀ r, r < nb → E.hb r = E1.hb r) (hz : E.z = E1.z) (hb : E.bsz = E1.bsz) : ∀ {a : AV} {v : Value}, VR E1 a v → AV.under nb a = true → VR E a v
  | _, _, .int k n, _ => .int k n
  | _, _, .bool b, _ => .bool b
  | _, _, .str s, _ => .str s
  | _, _, .nilp, _ => .nilp
  | _, _, .ptr off h, p => .ptr off (by rw [hl _ (Nat.le_of_ble_eq_true p)]; exact h)
  | _, _, .ptrL off h k, p => .ptrL off (VRL.under hl hh hz hb h (by simpa [AV.under] using p)) (by rw [hz]; exact k)
  | _, _, .sl h h1 h2 h3, p => .sl (by rw [hl _ (Nat.le_of_ble_eq_true p)]; exact h) h1 h2 (by rw [hb]; exact h3)
  | _, _, .lst h h1 h2 h3 h4 k, p => .lst (VRL.under hl hh hz hb h (by simpa [AV.under] using p)) h1 h2 h3 h4 (by rw [hz]; exact k)
  | _, _, .mpn, _ => .mpn
  | _, _, .mp h, p => .mp (by rw [hl _ (Nat.le_of_ble_eq_true p)]; exact h)
  | _, _, .hp h, p => .hp (by rw [hh _ (Nat.le_of_ble_eq_true p)]; exact h)
  | _, _, .fn a b, p => by
    simp [AV.under] at p
    exact .fn (VRL.under hl hh hz hb a p.1) (VRL.under hl hh hz hb b p.2)
  | _, _, .nilfn, _ => .nilfn
  | _, _, .ifc h, p => .ifc (VR.under hl hh hz hb h (by simpa [AV.under] using p))
  | _, _, .nilifc, _ => .nilifc
  | _, _, .agg h, p => .agg (VRL.under hl hh hz hb h (by simpa [AV.under] using p))
  | _, _, .tup h, p => .tup (VRL.under hl hh hz hb h (by simpa [AV.under] using p))
  | _, _, .lit v h, _ => .lit v h
  | _, _, .undef v, _ => .undef v
theorem VRL.under {E E1 : Env} {nb : Nat} (hl : ∀ r, r < nb → E.loc r = E1.loc r) (hh : ∀ r, r < nb → E.hb r = E1.hb r) (hz : E.z = E1.z) (hb : E.bsz = E1.bsz) : ∀ {l : List AV} {r : List Value}, VRL E1 l r → AV.unders nb l = true → VRL E l r
  | _, _, .nil, _ => .nil
  | _, _, .cons h t, p => by
    simp [AV.unders] at p
    exact .cons (VR.under hl hh hz hb h p.1) (VRL.under hl hh hz hb t p.2)
end

/-! ## The state that is left -/
def lowH (s : St) : Nat → Tr AObj
  | 0 => .nil
  | n + 1 => match s.get n with | some o => (lowH s n).set n o | none => lowH s n
def addH : List Row → Nat → Tr AObj → Tr AObj
  | [], _, h => h
  | o :: l, n, h => addH l (n + 1) (h.set n (.row o))

theorem lowH_get (s : St) (r : Nat) : ∀ n, (lowH s n).get r = if r < n then s.get r else none
  | 0 => by simp [lowH, Tr.get, Tr.getP_nil]
  | n + 1 => by
    have ih := lowH_get s r n
    simp only [lowH]
    cases e : s.get n with
    | none =>
      rw [ih]
      by_cases h : r < n
      · rw [if_pos h, if_pos (by omega)]
      · rw [if_neg h]
        by_cases h2 : r < n + 1
        · have : r = n := by omega
          subst this; rw [if_pos h2, e]
        · rw [if_neg h2]
    | some o =>
      simp only
      rw [Tr.get_set, ih]
      by_cases h : n = r
      · subst h; rw [if_pos rfl, if_pos (by omega), e]
      · rw [if_neg h]
        by_cases h2 : r < n
        · rw [if_pos h2, if_pos (by omega)]
        · rw [if_neg h2, if_neg (by omega)]

theorem addH_get (r : Nat) : ∀ (l : List Row) (n : Nat) (h : Tr AObj), (addH l n h).get r = if n ≤ r ∧ r < n + l.length then (l[r - n]?).map AObj.row else h.get r
  | [], n, h => by simp only [addH, List.length_nil]; rw [if_neg (by omega)]
  | o :: l, n, h => by
    simp only [addH]
    rw [addH_get r l (n + 1), Tr.get_set]
    simp only [List.length_cons]
    by_cases h1 : n = r
    · subst h1
      rw [if_neg (by omega), if_pos rfl, if_pos (by omega)]
      simp
    · rw [if_neg h1]
      by_cases h2 : n + 1 ≤ r ∧ r < n + 1 + l.length
      · rw [if_pos h2, if_pos (by omega)]
        rw [show r - n = (r - (n + 1)) + 1 by omega]
        simp
      · rw [if_neg h2]
        by_cases h3 : n ≤ r ∧ r < n + (l.length + 1)
        · omega
        · rw [if_neg h3]

/-- a slice that is kept: its row, from where on, what is in it -/
structure KItem where
  r : Nat
  off : Nat
  o : Row
  cs : List AV

def KItem.row (it : KItem) (n : Nat) : Row := { vals := it.cs, root := n, pos := 1, ep := 0, fep := 0, ext := 1 + it.cs.length, solo := true, ty := it.o.ty }
def rowsK : List KItem → Nat → List Row
  | [], _ => []
  | it :: l, n => it.row n :: rowsK l (n + 1)

theorem rowsK_len : ∀ (l : List KItem) (n : Nat), (rowsK l n).length = l.length
  | [], _ => rfl
  | _ :: l, n => by simp [rowsK, rowsK_len l]
theorem rowsK_get : ∀ (l : List KItem) (n i : Nat), (rowsK l n)[i]? = (l[i]?).map fun it => it.row (n + i)
  | [], _, _ => by simp [rowsK]
  | it :: l, n, 0 => by simp [rowsK]
  | it :: l, n, i + 1 => by simp only [rowsK, List.getElem?_cons_succ]; rw [rowsK_get l (n + 1) i, show n + 1 + i = n + (i + 1) by omega]

def packS (s : St) (nb : Nat) (is : List KItem) : St := ⟨nb + is.length, addH (rowsK is nb) nb (lowH s nb)⟩

theorem pack_get (s : St) (nb : Nat) (is : List KItem) (r : Nat) : (packS s nb is).get r = if r < nb then s.get r else (is[r - nb]?).map fun it => .row (it.row r) := by
  unfold packS St.get
  simp only
  rw [addH_get, rowsK_len, lowH_get]
  by_cases h : r < nb
  · rw [if_neg (by omega), if_pos h, if_pos h]
    rfl
  · rw [if_neg h, if_neg h]
    by_cases h2 : nb ≤ r ∧ r < nb + is.length
    · rw [if_pos h2, rowsK_get, show nb + (r - nb) = r by omega]
      cases is[r - nb]? <;> rfl
    · rw [if_neg h2, List.getElem?_eq_none (by omega)]
      rfl

/-- The slices that are kept are whole, and of families of their own, all made since. -/
structure KeptOk (s : St) (nb : Nat) (is : List KItem) : Prop where
  at_ : ∀ it ∈ is, rowAt s it.r = some it.o ∧ nb ≤ it.o.root ∧ it.cs = (it.o.vals.drop it.off).take it.cs.length ∧ it.off + it.cs.length ≤ it.o.vals.length ∧ AV.plains it.cs = true
  apart : ∀ (i j : Nat) (a b : KItem), is[i]? = some a → is[j]? = some b → a.o.root = b.o.root → i = j

/-- What is older leads to nothing that was made since. -/
def LowOk (s : St) (nb : Nat) : Prop :=
  (∀ r o, r < nb → s.get r = some (.row o) → AV.unders nb o.vals = true) ∧ ∀ r es, r < nb → s.get r = some (.mapo es) → AV.unders nb (es.map (·.1)) = true ∧ AV.unders nb (es.map (·.2)) = true

def Env.pack (E : Env) (nb : Nat) (is : List KItem) : Env :=
  { E with
    loc := fun r => if r < nb then E.loc r else match is[r - nb]? with | some it => (E.loc it.r).map fun p => (p.1, p.2 + it.off) | Option.none => .none
    hb := fun n => if n < nb then E.hb n else .none
    own := fun n c => n < nb ∧ E.own n c }

section
variable {E : Env} {s : St} {w : World} {nb : Nat} {is : List KItem}

theorem pack_low {r : Nat} (h : r < nb) : (E.pack nb is).loc r = E.loc r := if_pos h
theorem pack_loc {r b base : Nat} (h : (E.pack nb is).loc r = some (b, base)) : (r < nb ∧ E.loc r = some (b, base)) ∨ (nb ≤ r ∧ ∃ it base0, is[r - nb]? = some it ∧ E.loc it.r = some (b, base0) ∧ base = base0 + it.off) := by
  simp only [Env.pack] at h
  by_cases hr : r < nb
  · rw [if_pos hr] at h; exact .inl ⟨hr, h⟩
  · rw [if_neg hr] at h
    split at h
    · rename_i it hit
      cases he : E.loc it.r with
      | none => rw [he] at h; cases h
      | some p =>
        rw [he] at h
        cases h
        exact .inr ⟨by omega, it, p.2, hit, by rw [he], rfl⟩
    · cases h

theorem Rel.pack (h : Rel E s w) (hk : KeptOk s nb is) (hl : LowOk s nb) : Rel (E.pack nb is) (packS s nb is) w := by
  have hmem : ∀ {i : Nat} {it : KItem}, is[i]? = some it → it ∈ is := fun e => List.mem_of_getElem? e
  have tr : ∀ {l : List AV} {vs : List Value}, VRL E l vs → AV.unders nb l = true → VRL (E.pack nb is) l vs := fun hv hu => VRL.under (fun r hr => pack_low hr) (fun r hr => if_pos hr) rfl rfl hv hu
  have low : ∀ r, r < nb → (packS s nb is).get r = s.get r := fun r hr => by rw [pack_get, if_pos hr]
  have new : ∀ r o, nb ≤ r → (packS s nb is).get r = some o → ∃ it, is[r - nb]? = some it ∧ o = .row (it.row r) := fun r o hr e => by
    rw [pack_get, if_neg (by omega)] at e
    cases hi : is[r - nb]? with
    | none => rw [hi] at e; cases e
    | some it => rw [hi] at e; cases e; exact ⟨it, rfl, rfl⟩
  have rootlt : ∀ r o, r < nb → s.get r = some (.row o) → o.root < nb := fun r o hr e => Nat.lt_of_le_of_lt (h.wf.rle r o e) hr
  have hval : ∀ r o, r < nb → s.get r = some (.row o) → valid (packS s nb is) o = valid s o := fun r o hr e => valid_congr (low _ (rootlt r o hr e))
  have root_of : ∀ r o b base1 it base2, r < nb → s.get r = some (.row o) → E.loc r = some (b, base1) → it ∈ is → E.loc it.r = some (b, base2) → False := fun r o b base1 it base2 hr e e1 hit e2 => by
    obtain ⟨q1, q2, _⟩ := hk.at_ it hit
    obtain ⟨q3, _⟩ := rowAt_eq q1
    have hlt := rootlt r o hr e
    rcases h.coh r it.r b base1 base2 e1 e2 with h1 | ⟨o1, o2, k1, k2, k3, _⟩
    · rw [h1, q3] at e; cases e; omega
    · rw [e] at k1; cases k1
      rw [q3] at k2; cases k2
      omega
  refine ⟨⟨fun r hr => ?_, fun r o e => ?_, fun r o e hs => ?_, fun r o e => ?_⟩, fun r b base e => ?_, fun r p e => ?_, h.z, fun b o v r base e el => ?_, fun r o b base e el => ?_, fun r es b base e el => ?_, fun r x n b base e el => ?_,
    fun r1 r2 b b1 b2 e1 e2 => ?_, fun r o b base e el hq hp => ?_, fun n d b e eb w1 hw => ?_, fun n c hc => ?_, fun n b eb => ?_⟩
  · have hr : nb + is.length ≤ r := hr
    rw [pack_get, if_neg (by omega), List.getElem?_eq_none (by omega)]; rfl
  · by_cases hr : r < nb
    · rw [low r hr] at e
      obtain ⟨q, g1, g2, g3, g4⟩ := h.wf.root r o e
      exact ⟨q, by rw [low _ (rootlt r o hr e)]; exact g1, g2, g3, fun hv => g4 (by rw [← hval r o hr e]; exact hv)⟩
    · obtain ⟨it, h1, h2⟩ := new r _ (by omega) e
      cases h2
      refine ⟨it.row r, ?_, rfl, Nat.le_refl _, fun _ => Nat.le_refl _⟩
      show (packS s nb is).get r = _
      rw [pack_get, if_neg hr, h1]; rfl
  · by_cases hr : r < nb
    · rw [low r hr] at e
      obtain ⟨k1, k2⟩ := h.wf.solo r o e hs
      refine ⟨k1, fun r2 o2 e2 h2 => ?_⟩
      by_cases hr2 : r2 < nb
      · rw [low r2 hr2] at e2; exact k2 r2 o2 e2 h2
      · obtain ⟨it, _, h4⟩ := new r2 _ (by omega) e2
        cases h4
        exact h2
    · obtain ⟨it, h1, h2⟩ := new r _ (by omega) e
      cases h2
      refine ⟨rfl, fun r2 o2 e2 h3 => ?_⟩
      by_cases hr2 : r2 < nb
      · rw [low r2 hr2] at e2
        have := rootlt r2 o2 hr2 e2
        omega
      · obtain ⟨it2, _, h4⟩ := new r2 _ (by omega) e2
        cases h4
        exact h3
  · by_cases hr : r < nb
    · rw [low r hr] at e; exact h.wf.rle r o e
    · obtain ⟨it, h1, h2⟩ := new r _ (by omega) e
      cases h2
      exact Nat.le_refl _
  · rcases pack_loc e with ⟨h1, h2⟩ | ⟨h1, it, base0, h2, h3, _⟩
    · exact ⟨by show r < nb + is.length; omega, (h.lt r b base h2).2⟩
    · refine ⟨?_, (h.lt it.r b base0 h3).2⟩
      show r < nb + is.length
      rcases Nat.lt_or_ge (r - nb) is.length with h4 | h4
      · omega
      · rw [List.getElem?_eq_none h4] at h2; cases h2
  · obtain ⟨b, base⟩ := p
    rcases pack_loc e with ⟨h1, h2⟩ | ⟨h1, it, base0, h2, h3, _⟩
    · rw [low r h1]; exact h.obj r _ h2
    · exact ⟨_, by rw [pack_get, if_neg (by omega), h2]; rfl⟩
  · rcases pack_loc el with ⟨h1, h2⟩ | ⟨h1, it, base0, h2, h3, _⟩
    · exact h.zap b o v r base e h2
    · exact h.zap b o v it.r base0 e h3
  · rcases pack_loc el with ⟨h1, h2⟩ | ⟨h1, it, base0, h2, h3, h4⟩
    · rw [low r h1] at e
      obtain ⟨c, ty, fz, g1, g2, g3, g4⟩ := h.row r o b base e h2
      refine ⟨c, ty, fz, g1, g2, g3, fun hv => ?_⟩
      obtain ⟨hz, vs, k1, k2⟩ := g4 (by rw [← hval r o h1 e]; exact hv)
      exact ⟨hz, vs, tr k1 (hl.1 r o h1 e), k2⟩
    · obtain ⟨it2, h5, h6⟩ := new r _ h1 e
      rw [h2] at h5; cases h5
      cases h6
      obtain ⟨q1, q2, q3, q4, q5⟩ := hk.at_ it (hmem h2)
      obtain ⟨p1, p2⟩ := rowAt_eq q1
      obtain ⟨c, ty, fz, g1, g2, g3, g4⟩ := h.row it.r it.o b base0 p1 h3
      obtain ⟨⟨z1, z2⟩, vs, k1, k2⟩ := g4 p2
      refine ⟨c, ty, fz, g1, g2, by show base + it.cs.length ≤ c.size; omega, fun _ => ⟨⟨z1, z2⟩, (vs.drop it.off).take it.cs.length, ?_, fun i v hi => ?_⟩⟩
      · show VRL _ it.cs _
        have hv : VRL E it.cs ((vs.drop it.off).take it.cs.length) := by
          have k3 := (k1.drop it.off).take it.cs.length
          rw [← q3] at k3
          exact k3
        exact VRL.plain (E := E.pack nb is) (E1 := E) (fun _ _ _ e => e) hv q5
      · rw [List.getElem?_take] at hi
        split at hi
        · rw [List.getElem?_drop] at hi
          have := k2 _ v hi
          rw [h4, show base0 + it.off + i = base0 + (it.off + i) by omega]; exact this
        · cases hi
  · rcases pack_loc el with ⟨h1, h2⟩ | ⟨h1, it, base0, h2, h3, h4⟩
    · rw [low r h1] at e
      obtain ⟨ents, clock, g1, g2, g3⟩ := h.mapo r es b base e h2
      obtain ⟨u1, u2⟩ := hl.2 r es h1 e
      exact ⟨ents, clock, g1, tr g2 u1, tr g3 u2⟩
    · obtain ⟨it2, _, h6⟩ := new r _ h1 e; cases h6
  · rcases pack_loc el with ⟨h1, h2⟩ | ⟨h1, it, base0, h2, h3, h4⟩
    · rw [low r h1] at e; exact h.iter r x n b base e h2
    · obtain ⟨it2, _, h6⟩ := new r _ h1 e; cases h6
  · rcases pack_loc e1 with ⟨h1, h2⟩ | ⟨h1, it1, base1, h2, h3, h4⟩ <;> rcases pack_loc e2 with ⟨k1, k2⟩ | ⟨k1, it2, base2, k2, k3, k4⟩
    · rcases h.coh r1 r2 b b1 b2 h2 k2 with m1 | ⟨o1, o2, m1, m2, m3, m4⟩
      · exact .inl m1
      · exact .inr ⟨o1, o2, by rw [low r1 h1]; exact m1, by rw [low r2 k1]; exact m2, m3, m4⟩
    · obtain ⟨x, hx⟩ := h.obj r1 _ h2
      obtain ⟨q1, q2, _⟩ := hk.at_ it2 (hmem k2)
      obtain ⟨q3, _⟩ := rowAt_eq q1
      rcases h.coh r1 it2.r b b1 base2 h2 k3 with m1 | ⟨o1, o2, m1, m2, m3, m4⟩
      · have := h.wf.rle it2.r it2.o q3; omega
      · exact (root_of r1 o1 b b1 it2 base2 h1 m1 h2 (hmem k2) k3).elim
    · obtain ⟨q1, q2, _⟩ := hk.at_ it1 (hmem h2)
      obtain ⟨q3, _⟩ := rowAt_eq q1
      rcases h.coh it1.r r2 b base1 b2 h3 k2 with m1 | ⟨o1, o2, m1, m2, m3, m4⟩
      · have := h.wf.rle it1.r it1.o q3; omega
      · exact (root_of r2 o2 b b2 it1 base1 k1 m2 k2 (hmem h2) h3).elim
    · obtain ⟨q1, q2, _⟩ := hk.at_ it1 (hmem h2)
      obtain ⟨q3, _⟩ := rowAt_eq q1
      obtain ⟨p1, p2, _⟩ := hk.at_ it2 (hmem k2)
      obtain ⟨p3, _⟩ := rowAt_eq p1
      have hroot : it1.o.root = it2.o.root := by
        rcases h.coh it1.r it2.r b base1 base2 h3 k3 with m1 | ⟨o1, o2, m1, m2, m3, m4⟩
        · rw [m1, p3] at q3
          simp only [Option.some.injEq, AObj.row.injEq] at q3
          rw [q3]
        · rw [q3] at m1; cases m1
          rw [p3] at m2; cases m2
          exact m3
      have := hk.apart _ _ _ _ h2 k2 hroot
      exact .inl (by omega)
  · rcases pack_loc el with ⟨h1, h2⟩ | ⟨h1, it, base0, h2, h3, h4⟩
    · rw [low r h1] at e; exact h.b0 r o b base e h2 hq hp
    · obtain ⟨it2, _, h6⟩ := new r _ h1 e
      cases h6
      cases hp
  · have eb : (if n < nb then E.hb n else none) = some b := eb
    by_cases hlt : n < nb
    · rw [if_pos hlt] at eb
      rw [low n hlt] at e
      have e2 : (E.pack nb is).own n = E.own n := by funext c; exact propext ⟨fun x => x.2, fun x => ⟨hlt, x⟩⟩
      rw [e2] at hw ⊢
      exact h.hid n d b e eb w1 hw
    · rw [if_neg hlt] at eb; cases eb
  · obtain ⟨o1, o2, o3, o4⟩ := h.own n c hc.2
    refine ⟨o1, fun r base el => ?_, o3, fun m hm => o4 m hm.2⟩
    rcases pack_loc el with ⟨h1, h2⟩ | ⟨h1, it, base0, h2, h3, h4⟩
    · exact o2 r base h2
    · exact o2 it.r base0 h3
  · have eb : (if n < nb then E.hb n else none) = some b := eb
    by_cases hlt : n < nb
    · rw [if_pos hlt] at eb
      exact ⟨by show n < nb + is.length; omega, by rw [low n hlt]; exact (h.hlt n b eb).2⟩
    · rw [if_neg hlt] at eb; cases eb

theorem Step.pack {E0 : Env} {s0 : St} {w0 : World} (h0 : Rel E0 s0 w0) (h : Step E0 s0 w0 E s w) (hk : KeptOk s s0.next is) (hl : LowOk s s0.next) : Step E0 s0 w0 (E.pack s0.next is) (packS s s0.next is) w := by
  have low : ∀ r, r < s0.next → (packS s s0.next is).get r = s.get r := fun r hr => by rw [pack_get, if_pos hr]
  refine ⟨⟨fun r p e => ?_, h.le.z, fun r b base e => h.le.bsz r b base e, fun n b e => ?_, h.le.H⟩, fun r hr => ?_, fun r b base e => ?_, h.rel.pack hk hl, fun r hr hn hs hd => ?_, by show s0.next ≤ s0.next + is.length; omega, h.fr, h.os, h.tape, h.output, h.size, fun n c hc => h.owns n c hc.2, fun n d e => ?_⟩
  · rw [pack_low (h0.lt r p.1 p.2 e).1]; exact h.le.loc r p e
  · show (if n < s0.next then E.hb n else none) = some b
    rw [if_pos (h0.hlt n b e).1]; exact h.le.hb n b e
  · rw [pack_low hr]; exact h.old r hr
  · rcases pack_loc e with ⟨h1, h2⟩ | ⟨h1, it, base0, h2, h3, _⟩
    · exact h.new r b base h2
    · exact h.new it.r b base0 h3
  · rw [low r hr]; exact h.un r hr hn hs hd
  · rw [low n (h0.wf.lt e)]; exact h.hids n d e
end
end Go.Am
end
section
set_option autoImplicit false
namespace Go.Am

def consV (v : AV) (x : Option (List KItem × List AV)) : Option (List KItem × List AV) := match x with | some (is, vs) => some (is, v :: vs) | none => none

/-- the cells of a slice that is kept; of one that is empty all that stands behind its beginning -/
def cutX (len es off : Nat) (vals : List AV) : Option (List AV) := bif Nat.beq len 0 then (bif Nat.ble off vals.length then some (vals.drop off) else none) else cutN (len * es) off vals
theorem cutX_eq {len es off : Nat} {vals cs : List AV} (h : cutX len es off vals = some cs) (h0 : 0 < cs.length) : cs = (vals.drop off).take cs.length ∧ off + cs.length ≤ vals.length := by
  unfold cutX at h
  rcases Bool.eq_false_or_eq_true (Nat.beq len 0) with hb | hb
  · rw [cond_of_true hb] at h
    rcases Bool.eq_false_or_eq_true (Nat.ble off vals.length) with hc | hc
    · rw [cond_of_true hc] at h
      cases h
      have := Nat.le_of_ble_eq_true hc
      refine ⟨by rw [List.take_length], ?_⟩
      rw [List.length_drop]; omega
    · rw [cond_of_false hc] at h; cases h
  · rw [cond_of_false hb] at h
    obtain ⟨c1, c2⟩ := takeN_eq h
    have hlen := cutN_len h
    simp only [List.length_drop] at c2
    exact ⟨by rw [hlen]; exact c1, by omega⟩

/-- the slices that are kept, and what all that is kept is called now -/
def keepI (nb : Nat) (s : St) : List Nat → Nat → List AV → Option (List KItem × List AV)
  | _, _, [] => some ([], [])
  | us, j, v :: l => match v with
    | .sl r off len es tight => bif Nat.blt r nb then consV (.sl r off len es tight) (keepI nb s us j l) else
        match rowAt s r with
        | some o => bif Nat.ble nb o.root && !hasN o.root us then
            match cutX len es off o.vals with
            | some cs => bif nonNil cs && AV.plains cs then
                match keepI nb s (o.root :: us) (j + 1) l with
                | some (is, vs) => some (⟨r, off, o, cs⟩ :: is, .sl (nb + j) 0 len es false :: vs)
                | none => none
              else none
            | none => none
          else none
        | none => none
    | v => bif AV.under nb v then consV v (keepI nb s us j l) else none

def lowOkB (s : St) (nb : Nat) : Nat → Bool
  | 0 => true
  | n + 1 => (match s.get n with
    | some (.row o) => AV.unders nb o.vals
    | some (.mapo es) => AV.unders nb (es.map (·.1)) && AV.unders nb (es.map (·.2))
    | _ => true) && lowOkB s nb n

def getTr' (p : List Bool) (tr : Tr AV) : AV := match tr.getP p with | some v => v | none => .undef

theorem memN {d : Nat} : ∀ {l : List Nat}, d ∈ l → hasN d l = true
  | x :: l, h => by
    simp only [hasN]
    rcases Bool.eq_false_or_eq_true (x.beq d) with hb | hb
    · rw [cond_of_true hb]
    · rw [cond_of_false hb]
      rcases List.mem_cons.1 h with rfl | h
      · simp at hb
      · exact memN h

def slotsT : List Nat → List AV → Tr AV → Tr AV
  | i :: ls, v :: vs, tr => slotsT ls vs (tr.setP v (pathOf i))
  | _, _, tr => tr

def valsT (t : T) : List Nat → List AV
  | [] => []
  | i :: l => getT (pathOf i) t :: valsT t l

/-- Only these slots are kept, and what they lead to. -/
def packC (nb : Nat) (ls : List Nat) (t : T) (s : St) : Option (T × St) :=
  match t.ds with
  | [] => match keepI nb s [] 0 (valsT t ls) with
    | some (is, vs) => bif lowOkB s nb nb then some (⟨slotsT ls vs .nil, t.n, [], t.rc⟩, packS s nb is) else none
    | none => none
  | _ => none

section
variable {E : Env} {s : St} {nb : Nat}

/-- What is known of what is kept. -/
def KeepSpec (E : Env) (s : St) (nb : Nat) (us : List Nat) (j : Nat) (l : List AV) (is : List KItem) (vs : List AV) : Prop :=
    (∀ it ∈ is, rowAt s it.r = some it.o ∧ nb ≤ it.o.root ∧ it.o.root ∉ us ∧ it.cs = (it.o.vals.drop it.off).take it.cs.length ∧ it.off + it.cs.length ≤ it.o.vals.length ∧ AV.plains it.cs = true) ∧
    (∀ (i k : Nat) (a b : KItem), is[i]? = some a → is[k]? = some b → a.o.root = b.o.root → i = k) ∧
    ∀ {E' : Env}, (∀ r, r < nb → E'.loc r = E.loc r) → (∀ r, r < nb → E'.hb r = E.hb r) → E'.z = E.z → E'.bsz = E.bsz →
      (∀ (i : Nat) (it : KItem), is[i]? = some it → ∀ b base, E.loc it.r = some (b, base) → E'.loc (nb + (j + i)) = some (b, base + it.off)) → ∀ {xs : List Value}, VRL E l xs → VRL E' vs xs

theorem keepI_ok : ∀ {l : List AV} {us : List Nat} {j : Nat} {is : List KItem} {vs : List AV}, keepI nb s us j l = some (is, vs) → KeepSpec E s nb us j l is vs
  | [], us, j, is, vs, h => by
    simp only [keepI, Option.some.injEq, Prod.mk.injEq] at h
    obtain ⟨rfl, rfl⟩ := h
    exact ⟨fun it hit => by simp at hit, fun i k a b e => by simp at e, fun _ _ _ _ _ xs hv => by cases hv; exact .nil⟩
  | v :: l, us, j, is, vs, h => by
    have cons : ∀ {x : Option (List KItem × List AV)}, x = keepI nb s us j l → consV v x = some (is, vs) → AV.under nb v = true → KeepSpec E s nb us j (v :: l) is vs := fun {x} hx hc hu => by
      unfold consV at hc
      split at hc
      · rename_i is' vs'
        simp only [Option.some.injEq, Prod.mk.injEq] at hc
        obtain ⟨rfl, rfl⟩ := hc
        obtain ⟨h1, h2, h3⟩ := keepI_ok hx.symm
        exact ⟨h1, h2, fun a1 a2 a3 a4 a5 xs hv => by
          cases hv with
          | cons hv hvs => exact .cons (VR.under (nb := nb) a1 a2 a3 a4 hv hu) (h3 a1 a2 a3 a4 a5 hvs)⟩
      · cases hc
    unfold keepI at h
    split at h
    · rename_i r off len es tight
      rcases Bool.eq_false_or_eq_true (Nat.blt r nb) with hb | hb
      · rw [cond_of_true hb] at h
        exact cons rfl h hb
      · rw [cond_of_false hb] at h
        split at h
        · rename_i o ho
          rcases Bool.eq_false_or_eq_true (Nat.ble nb o.root && !hasN o.root us) with hc | hc
          · rw [cond_of_true hc] at h
            simp only [Bool.and_eq_true, Bool.not_eq_true'] at hc
            have hroot := Nat.le_of_ble_eq_true hc.1
            have hus : o.root ∉ us := fun hm => by
              have := hc.2
              rw [memN hm] at this; cases this
            split at h
            · rename_i cs hcs
              rcases Bool.eq_false_or_eq_true (nonNil cs && AV.plains cs) with hd | hd
              · rw [cond_of_true hd] at h
                rw [Bool.and_eq_true] at hd
                split at h
                · rename_i is' vs' hk
                  simp only [Option.some.injEq, Prod.mk.injEq] at h
                  obtain ⟨rfl, rfl⟩ := h
                  obtain ⟨h1, h2, h3⟩ := keepI_ok hk
                  have hpos : 0 < cs.length := by cases cs with | nil => cases hd.1 | cons _ _ => simp
                  obtain ⟨c1, c2⟩ := cutX_eq hcs hpos
                  refine ⟨fun it hit => ?_, fun i k a b ei ek er => ?_, fun {E'} a1 a2 a3 a4 a5 xs hv => ?_⟩
                  · rcases List.mem_cons.1 hit with rfl | hit
                    · exact ⟨ho, hroot, hus, c1, c2, hd.2⟩
                    · obtain ⟨q1, q2, q3, q4⟩ := h1 it hit
                      exact ⟨q1, q2, fun hm => q3 (by simp [hm]), q4⟩
                  · cases i with
                    | zero =>
                      cases k with
                      | zero => rfl
                      | succ k =>
                        simp only [List.getElem?_cons_zero, Option.some.injEq] at ei
                        subst ei
                        have := (h1 b (List.mem_of_getElem? (by simpa using ek))).2.2.1
                        exact absurd (by rw [← er]; simp) this
                    | succ i =>
                      cases k with
                      | zero =>
                        simp only [List.getElem?_cons_zero, Option.some.injEq] at ek
                        subst ek
                        have := (h1 a (List.mem_of_getElem? (by simpa using ei))).2.2.1
                        exact absurd (by rw [er]; simp) this
                      | succ k => rw [h2 i k a b (by simpa using ei) (by simpa using ek) er]
                  · cases hv with
                    | cons hv hvs =>
                      refine .cons ?_ (h3 a1 a2 a3 a4 (fun i it hi b base hl => ?_) hvs)
                      · cases hv with
                        | sl hloc hle ht ha =>
                          rename_i b base cap a
                          have hn := a5 0 ⟨r, off, o, cs⟩ rfl b base hloc
                          refine .sl (base := base + off) (by simpa using hn) hle (fun e => by cases e) fun hcap => ?_
                          obtain ⟨e1, e2⟩ := ha hcap
                          exact ⟨by simpa using e1, by rw [a4]; omega⟩
                      · rw [show nb + (j + 1 + i) = nb + (j + (i + 1)) by omega]
                        exact a5 (i + 1) it (by simpa using hi) b base hl
                · cases h
              · rw [cond_of_false hd] at h; cases h
            · cases h
          · rw [cond_of_false hc] at h; cases h
        · cases h
    · rcases Bool.eq_false_or_eq_true (AV.under nb v) with hb | hb
      · rw [cond_of_true hb] at h
        exact cons rfl h hb
      · rw [cond_of_false hb] at h; cases h

theorem lowOkB_ok : ∀ {n : Nat}, lowOkB s nb n = true → ∀ r, r < n → (∀ o, s.get r = some (.row o) → AV.unders nb o.vals = true) ∧ ∀ es, s.get r = some (.mapo es) → AV.unders nb (es.map (·.1)) = true ∧ AV.unders nb (es.map (·.2)) = true
  | 0, _, r, hr => by omega
  | n + 1, h, r, hr => by
    simp only [lowOkB, Bool.and_eq_true] at h
    by_cases e : r = n
    · subst e
      refine ⟨fun o ho => ?_, fun es hes => ?_⟩
      · rw [ho] at h; exact h.1
      · rw [hes] at h
        simpa using h.1
    · exact lowOkB_ok h.2 r (by omega)

theorem slotsT_get (x : Nat) : ∀ (ls : List Nat) (vs : List AV) (tr : Tr AV), (slotsT ls vs tr).getP (pathOf x) = tr.getP (pathOf x) ∨ ∃ (i : Nat) (v : AV), ls[i]? = some x ∧ vs[i]? = some v ∧ (slotsT ls vs tr).getP (pathOf x) = some v
  | [], _, _ => .inl rfl
  | _ :: _, [], _ => .inl rfl
  | i :: ls, v :: vs, tr => by
    simp only [slotsT]
    rcases slotsT_get x ls vs (tr.setP v (pathOf i)) with h | ⟨k, u, h1, h2, h3⟩
    · by_cases e : i = x
      · subst e
        exact .inr ⟨0, v, rfl, rfl, by rw [h, Tr.getP_setP_same]⟩
      · rw [h, Tr.getP_setP_ne _ _ _ _ (fun e2 => e (pathOf_inj e2))]
        exact .inl rfl
    · exact .inr ⟨k + 1, u, by simpa using h1, by simpa using h2, h3⟩

theorem valsT_VRL {t : T} {a : Act} (h : TR E t a) : ∀ ls : List Nat, VRL E (valsT t ls) (ls.map fun i => a.tmps.getD i undef)
  | [] => .nil
  | i :: l => .cons (h.val i) (valsT_VRL h l)

theorem packC_ok {ls : List Nat} {t t' : T} {s' : St} {a : Act} (ht : TR E t a) (hp : packC nb ls t s = some (t', s')) :
    ∃ is, KeptOk s nb is ∧ LowOk s nb ∧ s' = packS s nb is ∧ TR (E.pack nb is) t' a := by
  unfold packC at hp
  split at hp
  · rename_i hds
    split at hp
    · rename_i is vs hk
      rcases Bool.eq_false_or_eq_true (lowOkB s nb nb) with hb | hb
      · rw [cond_of_true hb] at hp
        simp only [Option.some.injEq, Prod.mk.injEq] at hp
        obtain ⟨rfl, rfl⟩ := hp
        obtain ⟨h1, h2, h3⟩ := keepI_ok (E := E) hk
        have hlow := lowOkB_ok hb
        refine ⟨is, ⟨fun it hit => ?_, h2⟩, ⟨fun r o hr e => (hlow r hr).1 o e, fun r es hr e => (hlow r hr).2 es e⟩, rfl, ht.size, fun i => ?_, ?_⟩
        · obtain ⟨q1, q2, _, q4⟩ := h1 it hit
          exact ⟨q1, q2, q4⟩
        · have hv := h3 (E' := E.pack nb is) (fun r hr => pack_low hr) (fun r hr => if_pos hr) rfl rfl (fun i it hi b base hl => by
            show (if nb + (0 + i) < nb then _ else _) = _
            rw [if_neg (by omega), show nb + (0 + i) - nb = i by omega, hi]
            simp only
            rw [hl]; rfl) (valsT_VRL ht ls)
          have hg : getT (pathOf i) (⟨slotsT ls vs .nil, t.n, [], t.rc⟩ : T) = getTr' (pathOf i) (slotsT ls vs .nil) := rfl
          rw [hg]
          unfold getTr'
          rcases slotsT_get i ls vs .nil with h4 | ⟨k, v, h4, h5, h6⟩
          · rw [h4, Tr.getP_nil]; exact .undef _
          · rw [h6]
            obtain ⟨u, hu, hvu⟩ := hv.at_ h5
            rw [List.getElem?_map, h4] at hu
            cases hu
            exact hvu
        · have := ht.ds
          rw [hds] at this
          generalize hdd : a.defers = dd at this
          cases this
          exact .nil
      · rw [cond_of_false hb] at hp; cases hp
    · cases hp
  · cases hp
end
end Go.Am
end
section
set_option autoImplicit false
namespace Go.Am

theorem Step.freeze {E E1 : Env} {s s1 : St} {w w' : World} (h0 : Rel E s w) (h : Step E s w E1 s1 w') (hs : ∀ r, r < s.next → s1.get r = s.get r) {r off len es : Nat} {tight : Bool} {v : Value}
    (hv : VR E1 (.sl r off len es tight) v) {o : Row} (ho : rowAt s1 r = some o) (hroot : s.next ≤ o.root) {cs : List AV} (hc : cutN (len * es) off o.vals = some cs) (hp : AV.plains cs = true) (hl0 : 0 < len) :
    ∃ E', Step E s w E' s w' ∧ VR E' (.lst cs len tight false) v := by
  have hd := h.drop h0 hs
  obtain ⟨ho1, ho2⟩ := rowAt_eq ho
  cases hv with
  | sl hloc hle ht ha =>
    rename_i b base cap a
    obtain ⟨c, ty, fz, g1, g2, g3, g4⟩ := h.rel.row r o b base ho1 hloc
    obtain ⟨_, vs, k1, k2⟩ := g4 ho2
    obtain ⟨e1, e2⟩ := takeN_eq hc
    have hlen : cs.length = len * es := cutN_len hc
    have hz1 : ∀ i, E1.z b i = none := fun i => by
      cases hx : E1.z b i with
      | none => rfl
      | some u => exact absurd hloc (h.rel.zap b i u r base hx)
    have hcs : VRL E1 cs ((vs.drop off).take (len * es)) := by rw [e1]; exact (k1.drop off).take _
    have hcs2 : VRL (E.cut E1) cs ((vs.drop off).take (len * es)) := VRL.plain (E := E.cut E1) (E1 := E1) (fun _ _ _ e => e) hcs hp
    have hnob : ∀ r0 base0, E.loc r0 ≠ some (b, base0) := fun r0 base0 e => by
      have hr0 := (h0.lt r0 b base0 e).1
      rcases h.rel.coh r0 r b base0 base (h.le.loc _ _ e) hloc with h1 | ⟨o1, o2, m1, m2, m3, _⟩
      · subst h1
        rw [hs _ hr0] at ho1
        obtain ⟨q, hq, _⟩ := h0.wf.root _ o ho1
        have := h0.wf.lt hq
        omega
      · rw [ho1] at m2; cases m2
        rw [hs _ hr0] at m1
        obtain ⟨q, hq, _⟩ := h0.wf.root _ o1 m1
        have := h0.wf.lt hq
        omega
    let E' : Env := { E.cut E1 with z := fun b2 i => if b2 = b then (if base + off ≤ i then ((vs.drop off).take (len * es))[i - (base + off)]? else none) else E1.z b2 i }
    have hle' : (E.cut E1).le E' := by
      refine ⟨fun _ _ e => e, fun b2 i u e => ?_, fun _ _ _ _ => rfl, fun _ _ e => e, rfl⟩
      have e : E1.z b2 i = some u := e
      show (if b2 = b then _ else E1.z b2 i) = some u
      rw [if_neg (fun e2 => by subst e2; rw [hz1] at e; cases e)]
      exact e
    have hzz : ∀ i u, ((vs.drop off).take (len * es))[i]? = some u → E'.z b (base + off + i) = some u := fun i u hu => by
      show (if b = b then (if base + off ≤ base + off + i then _ else _) else _) = some u
      rw [if_pos rfl, if_pos (by omega), show base + off + i - (base + off) = i by omega]
      exact hu
    have hcell : ∀ i u, ((vs.drop off).take (len * es))[i]? = some u → w'.cell? ⟨b, base + off + i, none⟩ = some u := fun i u hu => by
      rw [List.getElem?_take] at hu
      split at hu
      · rw [List.getElem?_drop] at hu
        have := k2 _ u hu
        rw [World.cell?, g1]
        simpa [Nat.add_assoc] using this
      · cases hu
    refine ⟨E', ⟨hd.le.trans hle', hd.old, hd.new, ?_, hd.un, hd.next, hd.fr, hd.os, hd.tape, hd.output, hd.size, hd.owns, hd.hids⟩, ?_⟩
    · refine ⟨hd.rel.wf, hd.rel.lt, hd.rel.obj, ?_, ?_, ?_, ?_, hd.rel.iter, hd.rel.coh, hd.rel.b0, hd.rel.hid, fun n k hk => ?_, hd.rel.hlt⟩
      rotate_right
      · obtain ⟨q1, q2, q3, q4⟩ := hd.rel.own n k hk
        refine ⟨q1, q2, fun i => ?_, q4⟩
        have hne : k ≠ b := fun e2 => by
          have hk : E1.own n k := hk
          exact (h.rel.own n k hk).2.1 r base (by rw [e2]; exact hloc)
        show (if k = b then _ else E1.z k i) = none
        rw [if_neg hne]; exact q3 i
      · intro b2 i u e
        have e : (if b2 = b then (if base + off ≤ i then ((vs.drop off).take (len * es))[i - (base + off)]? else none) else E1.z b2 i) = some u := e
        by_cases hb : b2 = b
        · subst hb
          rw [if_pos rfl] at e
          split at e
          · rename_i hi
            have := hcell _ u e
            rwa [show base + off + (i - (base + off)) = i by omega] at this
          · cases e
        · rw [if_neg hb] at e; exact h.rel.z b2 i u e
      · intro b2 i u q base2 e e2
        have e : (if b2 = b then (if base + off ≤ i then ((vs.drop off).take (len * es))[i - (base + off)]? else none) else E1.z b2 i) = some u := e
        by_cases hb : b2 = b
        · subst hb; exact hnob q base2 e2
        · rw [if_neg hb] at e; exact hd.rel.zap b2 i u q base2 e e2
      · intro q o2 b2 base2 e el
        obtain ⟨c2, ty2, fz2, m1, m2, m3, m4⟩ := hd.rel.row q o2 b2 base2 e el
        refine ⟨c2, ty2, fz2, m1, m2, m3, fun hv2 => ?_⟩
        obtain ⟨hz, us, u1, u2⟩ := m4 hv2
        exact ⟨hz, us, VRL.mono hle' u1, u2⟩
      · intro q es2 b2 base2 e el
        obtain ⟨ents, clock, m1, m2, m3⟩ := hd.rel.mapo q es2 b2 base2 e el
        exact ⟨ents, clock, m1, VRL.mono hle' m2, VRL.mono hle' m3⟩
    · obtain ⟨ea, _⟩ := ha (by omega)
      subst ea
      exact .lst (VRL.mono hle' hcs2) hle ht rfl (fun e => by cases e) fun _ => ⟨b, base + off, rfl, hzz⟩
end Go.Am
end
section
set_option autoImplicit false
namespace Go.Am

/-- 'internal/abi.NoEscape': what comes in goes out. -/
def sameX : List AV → St → Res := fun args s => match args with | [x] => .ret x s | _ => .fail

theorem same_known {P : Program} {G : Glob} {f : FuncId} (hrun : ∀ (x : Value) (w : World), (callFunc f #[x]).run P w = .ok (.value x) w) :
    ∀ (args : List AV) (s : St) (E : Env) (w : World) (vs : List Value), Rel E s w → GlobOk E G w → VRL E args vs → ResOk P E s w f vs (sameX args s) := by
  intro args s E w vs h _ ha
  cases ha with
  | nil => trivial
  | cons h1 h2 =>
    cases h2 with
    | nil => exact .inr ⟨_, w, E, hrun _ w, .refl h, h1⟩
    | cons _ _ => trivial
end Go.Am
end
section
set_option autoImplicit false
namespace Go.Am

/-! ## Slots that are kept -/
def keepTr (t : T) : List Nat → Tr AV → Tr AV
  | [], tr => tr
  | i :: l, tr => keepTr t l (tr.setP (getT (pathOf i) t) (pathOf i))

/-- What is kept at the head of a loop: all; these slots; these slots, and of what was made since what they lead to. -/
inductive Mode where
  | all
  | keep (l : List Nat)
  | pack (l : List Nat)

/-- Only these slots are kept. -/
def keepT (m : Mode) (t : T) : T :=
  match m with
  | .keep l | .pack l => ⟨keepTr t l .nil, t.n, t.ds, t.rc⟩
  | .all => t

/-- the head of a loop, come to anew -/
def nextC (m : Mode) (nb : Nat) (t : T) (s : St) : Option (T × St) :=
  match m with
  | .pack l => packC nb l t s
  | m => some (keepT m t, s)

def getTr (p : List Bool) (tr : Tr AV) : AV := match tr.getP p with | some v => v | none => .undef

theorem keepTr_get (t : T) (i : Nat) : ∀ (l : List Nat) (tr : Tr AV), (getTr (pathOf i) tr = getT (pathOf i) t ∨ getTr (pathOf i) tr = .undef) →
    (getTr (pathOf i) (keepTr t l tr) = getT (pathOf i) t ∨ getTr (pathOf i) (keepTr t l tr) = .undef)
  | [], tr, h => h
  | j :: l, tr, h => by
    refine keepTr_get t i l _ ?_
    unfold getTr
    by_cases hj : j = i
    · subst hj; rw [Tr.getP_setP_same]; exact .inl rfl
    · rw [Tr.getP_setP_ne _ _ _ _ (fun e => hj (pathOf_inj e))]; exact h

theorem keep_TR {E : Env} {t : T} {a : Act} (h : TR E t a) (m : Mode) : TR E (keepT m t) a := by
  have key : ∀ l : List Nat, TR E ⟨keepTr t l .nil, t.n, t.ds, t.rc⟩ a := fun l => by
    refine ⟨h.size, fun i => ?_, h.ds⟩
    have : getT (pathOf i) (⟨keepTr t l .nil, t.n, t.ds, t.rc⟩ : T) = getTr (pathOf i) (keepTr t l .nil) := rfl
    rw [this]
    rcases keepTr_get t i l .nil (.inr (by unfold getTr; rw [Tr.getP_nil])) with h1 | h1
    · rw [h1]; exact h.val i
    · rw [h1]; exact .undef _
  cases m with
  | all => exact h
  | keep l => exact key l
  | pack l => exact key l

/-! ## Running with such loops -/
abbrev Live := Nat → Mode

def loopD (m : Mode) (nb : Nat) (body : K) : Nat → K
  | 0 => fun _ _ => .fail
  | n + 1 => fun t s => match body t s with
    | .mk o t s => match o with
      | .normal => match nextC m nb t s with | some p => loopD m nb body n p.1 p.2 | none => .fail
      | o => .mk o t s
    | .fail => .fail

/-- is what is packed packed since the function's beginning? D says so at this number. -/
def baseB (D : Live) : Bool := match D 999 with | .pack _ => true | _ => false
def nbOf (b : Option Nat) (n : Nat) : Nat := match b with | some n0 => n0 | none => n
def baseO (D : Live) (n : Nat) : Option Nat := bif baseB D then some n else none

section
variable (P : Program) (G : Glob) (callF : CF) (D : Live) (b : Option Nat)

def execD (n : Nat) : Code → Nat → K
  | .skip, _ => doneC
  | .region _ ops draw, _ => regionC P G callF ops draw
  | .seq a b, i => thenC (execD n a i) (execD n b i)
  | .cond c a b, i => condC (evC G c) (execD n a i) (execD n b i)
  | .block id c, _ => blockC id (execD n c id)
  | .loop c, i => fun t s => loopD (D i) (nbOf b s.next) (execD n c i) n (keepT (D i) t) s
  | .exit id, _ => fun t s => .mk (.exit id) t s
  | .ret, _ => fun t s => .mk .ret t s
  | .label _, _ => doneC
  | _, _ => fun _ _ => .fail

end
section
variable (P : Program) (G : Glob) (callF : CF) (D : Live)
def bodyD (n : Nat) (fn : Option Func) : List AV → St → Res :=
  match fn with
  | some fn => match fn.body with
    | some body =>
      let rs := fn.results.toList
      fun args s => bif Nat.ble args.length fn.ntmps then finC P rs (callB P G callF n) (execD P G callF D (baseO D s.next) n body 0 ⟨setArgs args 0 .nil, fn.ntmps, [], .no⟩ s) else .fail
    | none => fun _ _ => .fail
  | none => fun _ _ => .fail
end

section
variable {P : Program} {G : Glob} {callF : CF} {D : Live}

theorem loopD_sound {x : K} {c : Code} (hx : Sound P G x c) {m : Mode} {E0 : Env} {s0 : St} {w0 : World} (h0 : Rel E0 s0 w0) (hG : GlobOk E0 G w0) : ∀ (n : Nat) {Q : Exit → Act → World → Prop} {t t' : T} {s s' : St} {o : Out} {a : Act} {w : World} {E : Env}, Step E0 s0 w0 E s w → TR E t a →
    loopD m s0.next x n t s = .mk o t' s' → (∀ e a' w' E', Step E0 s0 w0 E' s' w' → TR E' t' a' → OutR E' o e → Q e a' w') → Code.rounds P c Q n a w
  | 0, Q, t, t', s, s', o, a, w, E, _, _, hr, _ => by cases hr
  | n + 1, Q, t, t', s, s', o, a, w, E, h, ht, hr, hQ => by
    simp only [loopD] at hr
    rw [rounds_succ]
    split at hr
    · rename_i o1 t1 s1 e1
      refine hx.go h.rel (hG.step h0 h) ht e1 fun e a1 w1 E1 hs1 ht1 ho1 => ?_
      have hs2 := h.trans hs1
      split at hr
      · rw [ho1.normal]
        split at hr
        · rename_i p hp
          have key : ∃ E2, Step E0 s0 w0 E2 p.2 w1 ∧ TR E2 p.1 a1 := by
            cases m with
            | all => simp only [nextC, Option.some.injEq] at hp; subst hp; exact ⟨E1, hs2, keep_TR ht1 .all⟩
            | keep l => simp only [nextC, Option.some.injEq] at hp; subst hp; exact ⟨E1, hs2, keep_TR ht1 (.keep l)⟩
            | pack l =>
              obtain ⟨t2, s2⟩ := p
              obtain ⟨is, k1, k2, k3, k4⟩ := packC_ok ht1 hp
              subst k3
              exact ⟨_, Step.pack h0 hs2 k1 k2, k4⟩
          obtain ⟨E2, hs3, ht3⟩ := key
          exact loopD_sound hx h0 hG n hs3 ht3 hr hQ
        · cases hr
      · rename_i hne
        cases hr
        exact then_ne (ho1.ne hne) (hQ e a1 w1 E1 hs2 ht1 ho1)
    · cases hr

theorem execD_ok (hm : P.follows .mixedOrders = true) (hc : CFok P G callF) (n : Nat) : ∀ (c : Code) (i : Nat), Sound P G (execD P G callF D none n c i) c
  | .skip, _ => exec_ok hm hc n .skip
  | .label l, _ => exec_ok hm hc n (.label l)
  | .region id ops draw, _ => exec_ok hm hc n (.region id ops draw)
  | .seq x y, i => then_sound (execD_ok hm hc n x i) (execD_ok hm hc n y i)
  | .cond c x y, i => by
    refine ⟨?_⟩
    intro Q t t' s s' o a w E h hG ht hr hQ
    have hx := execD_ok hm hc n x i
    have hy := execD_ok hm hc n y i
    have hev := evC_ok hG ht c
    simp only [execD, condC] at hr
    split at hr
    · rename_i u e
      rw [e] at hev
      generalize hv : a.eval c = v at hev
      cases hev
      refine wp_cond hv ?_
      cases u with
      | true => exact hx.go h hG ht hr hQ
      | false => exact hy.go h hG ht hr hQ
    · cases hr
  | .block id c, _ => block_sound (execD_ok hm hc n c id)
  | .loop c, i => by
    refine ⟨?_⟩
    intro Q t t' s s' o a w E h hG ht hr hQ
    exact wp_loop_rounds n (loopD_sound (execD_ok hm hc n c i) h hG n (.refl h) (keep_TR ht _) hr hQ)
  | .exit id, _ => exec_ok hm hc n (.exit id)
  | .ret, _ => exec_ok hm hc n .ret
  | .rangeFunc _ _ _ _, _ => by refine ⟨?_⟩; intro Q t t' s s' o a w E h hG ht hr hQ; cases hr
  | .scope _, _ => by refine ⟨?_⟩; intro Q t t' s s' o a w E h hG ht hr hQ; cases hr
  | .goto _, _ => by refine ⟨?_⟩; intro Q t t' s s' o a w E h hG ht hr hQ; cases hr
  | .refuse _, _ => by refine ⟨?_⟩; intro Q t t' s s' o a w E h hG ht hr hQ; cases hr
end

/-! ## What is packed since the function's beginning -/
section
variable {P : Program} {G : Glob} {callF : CF} {D : Live} {E0 : Env} {s0 : St} {w0 : World}
structure SoundB (P : Program) (E0 : Env) (s0 : St) (w0 : World) (k : K) (c : Code) : Prop where
  go : ∀ {Q : Exit → Act → World → Prop} {t t' : T} {s s' : St} {o : Out} {a : Act} {w : World} {E : Env}, Step E0 s0 w0 E s w → TR E t a → k t s = .mk o t' s' →
    (∀ e a' w' E', Step E0 s0 w0 E' s' w' → TR E' t' a' → OutR E' o e → Q e a' w') → c.wp P Q a w
theorem Sound.base {k : K} {c : Code} (h0 : Rel E0 s0 w0) (hG : GlobOk E0 G w0) (h : Sound P G k c) : SoundB P E0 s0 w0 k c := by
  refine ⟨?_⟩
  intro Q t t' s s' o a w E hs ht hr hQ
  exact h.go hs.rel (hG.step h0 hs) ht hr fun e a1 w1 E1 hs1 ht1 ho1 => hQ e a1 w1 E1 (hs.trans hs1) ht1 ho1

theorem then_soundB {x y : K} {c d : Code} (hx : SoundB P E0 s0 w0 x c) (hy : SoundB P E0 s0 w0 y d) : SoundB P E0 s0 w0 (thenC x y) (.seq c d) := by
  refine ⟨?_⟩
  intro Q t t' s s' o a w E h ht hr hQ
  unfold thenC at hr
  split at hr
  · rename_i o1 t1 s1 e1
    refine wp_seq (hx.go h ht e1 fun e a1 w1 E1 hs1 ht1 ho1 => ?_)
    split at hr
    · rw [ho1.normal]
      exact hy.go hs1 ht1 hr hQ
    · rename_i hne
      cases hr
      exact then_ne (ho1.ne hne) (hQ e a1 w1 E1 hs1 ht1 ho1)
  · cases hr

theorem loopD_soundB {x : K} {c : Code} (hx : SoundB P E0 s0 w0 x c) {m : Mode} (h0 : Rel E0 s0 w0) : ∀ (n : Nat) {Q : Exit → Act → World → Prop} {t t' : T} {s s' : St} {o : Out} {a : Act} {w : World} {E : Env}, Step E0 s0 w0 E s w → TR E t a →
    loopD m s0.next x n t s = .mk o t' s' → (∀ e a' w' E', Step E0 s0 w0 E' s' w' → TR E' t' a' → OutR E' o e → Q e a' w') → Code.rounds P c Q n a w
  | 0, Q, t, t', s, s', o, a, w, E, _, _, hr, _ => by cases hr
  | n + 1, Q, t, t', s, s', o, a, w, E, h, ht, hr, hQ => by
    simp only [loopD] at hr
    rw [rounds_succ]
    split at hr
    · rename_i o1 t1 s1 e1
      refine hx.go h ht e1 fun e a1 w1 E1 hs2 ht1 ho1 => ?_
      split at hr
      · rw [ho1.normal]
        split at hr
        · rename_i p hp
          have key : ∃ E2, Step E0 s0 w0 E2 p.2 w1 ∧ TR E2 p.1 a1 := by
            cases m with
            | all => simp only [nextC, Option.some.injEq] at hp; subst hp; exact ⟨E1, hs2, keep_TR ht1 .all⟩
            | keep l => simp only [nextC, Option.some.injEq] at hp; subst hp; exact ⟨E1, hs2, keep_TR ht1 (.keep l)⟩
            | pack l =>
              obtain ⟨t2, s2⟩ := p
              obtain ⟨is, k1, k2, k3, k4⟩ := packC_ok ht1 hp
              subst k3
              exact ⟨_, Step.pack h0 hs2 k1 k2, k4⟩
          obtain ⟨E2, hs3, ht3⟩ := key
          exact loopD_soundB hx h0 n hs3 ht3 hr hQ
        · cases hr
      · rename_i hne
        cases hr
        exact then_ne (ho1.ne hne) (hQ e a1 w1 E1 hs2 ht1 ho1)
    · cases hr

theorem block_soundB {x : K} {c : Code} {id : Nat} (hx : SoundB P E0 s0 w0 x c) : SoundB P E0 s0 w0 (blockC id x) (.block id c) := by
  refine ⟨?_⟩
  intro Q t t' s s' o a w E h ht hr hQ
  unfold blockC at hr
  split at hr
  · rename_i o1 t1 s1 e1
    refine wp_block (hx.go h ht e1 fun e a1 w1 E1 hs1 ht1 ho1 => ?_)
    split at hr
    · rename_i i
      cases e with
      | exit j =>
        have hij : i = j := ho1
        subst hij
        rcases Bool.eq_false_or_eq_true (i.beq id) with hb | hb
        · have := Nat.eq_of_beq_eq_true hb
          subst this
          rw [cond_of_true hb] at hr
          cases hr
          simp only [Exit.inBlock, if_true]
          exact hQ .normal a1 w1 E1 hs1 ht1 trivial
        · have : i ≠ id := fun e => by subst e; simp at hb
          rw [cond_of_false hb] at hr
          cases hr
          simp only [Exit.inBlock, if_neg this]
          exact hQ (.exit i) a1 w1 E1 hs1 ht1 rfl
      | _ => cases ho1
    · rename_i hne
      cases hr
      have hq := hQ e a1 w1 E1 hs1 ht1 ho1
      cases e with
      | exit j => cases o <;> first | exact absurd rfl (hne _) | cases ho1
      | _ => exact hq
  · cases hr

theorem execD_okB (hm : P.follows .mixedOrders = true) (hc : CFok P G callF) (h0 : Rel E0 s0 w0) (hG : GlobOk E0 G w0) (n : Nat) : ∀ (c : Code) (i : Nat), SoundB P E0 s0 w0 (execD P G callF D (some s0.next) n c i) c
  | .skip, _ => (exec_ok hm hc n .skip).base h0 hG
  | .label l, _ => (exec_ok hm hc n (.label l)).base h0 hG
  | .region id ops draw, _ => (exec_ok hm hc n (.region id ops draw)).base h0 hG
  | .seq x y, i => then_soundB (execD_okB hm hc h0 hG n x i) (execD_okB hm hc h0 hG n y i)
  | .cond c x y, i => by
    refine ⟨?_⟩
    intro Q t t' s s' o a w E h ht hr hQ
    have hx := execD_okB hm hc h0 hG n x i
    have hy := execD_okB hm hc h0 hG n y i
    have hev := evC_ok (hG.step h0 h) ht c
    simp only [execD, condC] at hr
    split at hr
    · rename_i u e
      rw [e] at hev
      generalize hv : a.eval c = v at hev
      cases hev
      refine wp_cond hv ?_
      cases u with
      | true => exact hx.go h ht hr hQ
      | false => exact hy.go h ht hr hQ
    · cases hr
  | .block id c, _ => block_soundB (execD_okB hm hc h0 hG n c id)
  | .loop c, i => by
    refine ⟨?_⟩
    intro Q t t' s s' o a w E h ht hr hQ
    exact wp_loop_rounds n (loopD_soundB (execD_okB hm hc h0 hG n c i) h0 n h (keep_TR ht _) hr hQ)
  | .exit id, _ => (exec_ok hm hc n (.exit id)).base h0 hG
  | .ret, _ => (exec_ok hm hc n .ret).base h0 hG
  | .rangeFunc _ _ _ _, _ => by refine ⟨?_⟩; intro Q t t' s s' o a w E h ht hr hQ; cases hr
  | .scope _, _ => by refine ⟨?_⟩; intro Q t t' s s' o a w E h ht hr hQ; cases hr
  | .goto _, _ => by refine ⟨?_⟩; intro Q t t' s s' o a w E h ht hr hQ; cases hr
  | .refuse _, _ => by refine ⟨?_⟩; intro Q t t' s s' o a w E h ht hr hQ; cases hr

theorem execD_any (hm : P.follows .mixedOrders = true) (hc : CFok P G callF) {E : Env} {s : St} {w : World} (h : Rel E s w) (hG : GlobOk E G w) (n : Nat) (c : Code) (i : Nat) : SoundB P E s w (execD P G callF D (baseO D s.next) n c i) c := by
  unfold baseO
  cases baseB D with
  | true => exact execD_okB hm hc h hG n c i
  | false => exact (execD_ok hm hc n c i).base h hG
end

theorem bodyD_ok {P : Program} {G : Glob} {callF : CF} {D : Live} (hm : P.follows .mixedOrders = true) (hn : NoNG P) (hc : CFok P G callF) (n : Nat) (f : FuncId) (args : List AV) (s : St) (E : Env) (w : World) (vs : List Value) (h : Rel E s w) (hG : GlobOk E G w) (ha : VRL E args vs) :
    ResOk P E s w f vs (bodyD P G callF D n P.funcs[f]? args s) := by
  generalize hr : bodyD P G callF D n P.funcs[f]? args s = r
  by_cases hfail : r = .fail
  · subst hfail; trivial
  unfold bodyD at hr
  cases hfn : P.funcs[f]? with
  | none => rw [hfn] at hr; exact absurd hr.symm hfail
  | some fn =>
    cases hb : fn.body with
    | none => simp only [hfn, hb] at hr; exact absurd hr.symm hfail
    | some c =>
      simp only [hfn, hb] at hr
      rcases Bool.eq_false_or_eq_true (Nat.ble args.length fn.ntmps) with hl | hl
      rotate_left
      · rw [cond_of_false hl] at hr; exact absurd hr.symm hfail
      rw [cond_of_true hl] at hr
      have hle := Nat.le_of_ble_eq_true hl
      have hent : Enters P f := ⟨fn, hfn, by rw [hb]; rfl, hn f fn hfn⟩
      have main : ∀ (R : Ending → World → Prop), (∀ x s', r = .ret x s' → ∀ v w' E', Step E s w E' s' w' → VR E' x v → R (.returned v) w') →
          (∀ x s', r = .panic x s' → ∀ v w' E', Step E s w E' s' w' → VR E' x v → R (.panicked [{ v := v, recovered := false }]) w') → Calls P f ⟨vs⟩ w R := by
        intro R h1 h2
        refine calls_of_wp_defers hfn hb ?_
        unfold finC at hr
        split at hr
        · rename_i o t s1 e1
          refine (execD_any hm hc h hG n c 0).go (.refl h) (enter_TR ha hle) e1 fun e a' w' E' hs hta ho => ?_
          split at hr
          · rw [ho.normal]
            exact endC_ok hm hn hc (o := .ret) (u := .returning) hs (hG.step h hs) hta rfl hr hfail h1 h2
          · have : e = .ret := by cases e <;> first | rfl | cases ho
            subst this
            exact endC_ok hm hn hc (o := .ret) (u := .returning) hs (hG.step h hs) hta rfl hr hfail h1 h2
          · cases e with
            | panic ch =>
              obtain ⟨v, hv, hvr⟩ := ho
              subst hv
              rename_i x2
              exact endC_ok hm hn hc (o := .panic x2) (u := .panicking [{ v := v, recovered := false }]) hs (hG.step h hs) hta ⟨v, rfl, hvr⟩ hr hfail h1 h2
            | _ => cases ho
          · exact absurd hr.symm hfail
        · exact absurd hr.symm hfail
      cases r with
      | fail => trivial
      | ret x s' =>
        refine .inl ⟨hent, main _ (fun x2 s2 e v w' E' hs hv => ?_) (fun x2 s2 e => by cases e)⟩
        cases e
        exact ⟨v, E', rfl, hs, hv⟩
      | panic x s' =>
        refine ⟨hent, main _ (fun x2 s2 e => by cases e) (fun x2 s2 e v w' E' hs hv => ?_)⟩
        cases e
        exact ⟨v, E', rfl, hs, hv⟩

/-! ## The same with a continuation -/
section
variable {β : Type}

abbrev KA (β : Type) := Out → T → St → Option β
abbrev CK (β : Type) := FuncId → List AV → St → (Res → Option β) → Option β

/-- what the one says, the other says -/
def Le (a b : Option β) : Prop := ∀ x, a = some x → b = some x
theorem Le.refl (a : Option β) : Le a a := fun _ h => h
theorem Le.none (b : Option β) : Le .none b := fun _ h => by cases h

def goK (k : KA β) (e : Ex) : Option β := match e with | .mk o t s => k o t s | .fail => none

/-- one of two, by a test -/
abbrev byB {α : Type} (u : Bool) (a b : α) : α := match u with | true => a | false => b

/-- Both ways are gone, where a slot says which; and the slot says it from then on. -/
def decideK : List Nat → (T → St → Option β) → T → St → Option β
  | [], k => k
  | d :: l, k => let p := pathOf d; fun t s => match t.tr.getP p with
    | some (.bool u) => byB u (decideK l k { t with tr := t.tr.setP (.bool true) p } s) (decideK l k { t with tr := t.tr.setP (.bool false) p } s)
    | _ => decideK l k t s

theorem Tr.setP_self {α : Type} {x : α} : ∀ {p : List Bool} {t : Tr α}, t.getP p = some x → t.setP x p = t
  | [], .nil, h => by cases h
  | [], .node v l r, h => by simp only [Tr.getP] at h; subst h; rfl
  | b :: p, .nil, h => by cases h
  | true :: p, .node v l r, h => by simp only [Tr.getP, cond_true] at h; simp only [Tr.setP, cond_true]; rw [Tr.setP_self h]
  | false :: p, .node v l r, h => by simp only [Tr.getP, cond_false] at h; simp only [Tr.setP, cond_false]; rw [Tr.setP_self h]

theorem decideK_eq (k : T → St → Option β) : ∀ (l : List Nat) (t : T) (s : St), decideK l k t s = k t s
  | [], _, _ => rfl
  | d :: l, t, s => by
    simp only [decideK]
    split
    · rename_i u e
      cases u
      · show decideK l k _ s = _
        rw [decideK_eq k l, Tr.setP_self e]
      · show decideK l k _ s = _
        rw [decideK_eq k l, Tr.setP_self e]
    · exact decideK_eq k l t s

/-- the slots of tests that an operation hangs on -/
def slotsOf (ops : Array Oper) (o : Oper) : List Nat :=
  (match o.guard with
  | some (j, _) => match (ops[j]?).bind (·.dst) with | some d => [d] | none => []
  | none => []) ++ (match o.op with
  | .pick (.tmp i) _ _ => [i]
  | .unOp _ _ (.tmp i) => [i]
  | .binOp _ _ (.tmp i) (.tmp j) _ => [i, j]
  | .binOp _ _ (.tmp i) _ _ => [i]
  | .binOp _ _ _ (.tmp j) _ => [j]
  | _ => [])

/-- what comes of an operation's outcome -/
def effEx (put : AV → T → T) (chk : T → St → Bool) (fl : List Nat) (t : T) : Nx → Ex
  | .val v s => goOn chk (put v t) s
  | .skip s => goOn chk (put (.tup []) t) s
  | .dfr g args s => goOn chk (put (.tup []) { t with ds := (g, args) :: t.ds }) s
  | .panic v s => .mk (.panic v) (maskT fl t) s
  | .fail => .fail
def plainEx (put : AV → T → T) (t : T) : Nx → Ex
  | .val v s => .mk .normal (put v t) s
  | _ => .fail

def optK {γ : Type} (k : γ → Option β) (x : Option γ) : Option β := match x with | some v => k v | none => none
def resK (k : Nx → Option β) (r : Res) : Option β := match r with | .ret v s => k (.val v s) | .panic v s => k (.panic v s) | .fail => none
def nxK (k : Nx → Option β) (n : Nx) : Option β := match n with | .fail => none | nx => k nx

/-- what a map of pairs of numbers is asked -/
def asPair : Option (Option AV) → Option (Bool × Int × Int)
  | some (some (.agg [.int .i64 a, .int .i64 b])) => some (true, a, b)
  | some none => some (false, 0, 0)
  | _ => none
def pairZ : Option AV → Bool
  | some (.agg [.int .i64 (.ofNat 0), .int .i64 (.ofNat 0)]) => true
  | _ => false

section
variable (P : Program) (G : Glob) (callF : CF) (ck : CK β)

/-! What is read that is not known: its kind is. -/
def opt1 (kd : IntKind) (f : Int → Option β) : Option AV → Option β
  | some (.int j n) => bif kindEq j kd then f n else none
  | _ => none
def opt2 (f : Int → Int → Option β) : Option (List AV) → Option β
  | some [.int .i64 a, .int .i64 b] => f a b
  | _ => none
def optLst (f : List AV → Nat → Bool → Bool → Option β) : Option AV → Option β
  | some (.lst c n t nl) => f c n t nl
  | _ => none
def ifK (c : Bool) (x : Option β) : Option β := match c with | true => x | false => none
/-- two numbers -/
def twoT (P : Program) (ty : TypeId) : Bool :=
  match P.underlying ty with
  | some (.struct ⟨[a, b]⟩) => match P.underlying a.type, P.underlying b.type with
    | some (.int .i64), some (.int .i64) => true
    | _, _ => false
  | _ => false

/-- a slice of a row that is known -/
def optS (q : Nat) (k : Nat → Nat → Nat → Bool → Option β) : Option AV → Option β
  | some (.sl r off len es tight) => bif r.beq q then k off len es tight else none
  | _ => none
def loadS (orc : Option (Nat × Nat)) (k : Nx → Option β) (r off : Nat) (s : St) : Option β :=
  match orc with
  | some (r1, q) => bif r.beq r1 then optS q (fun o n es t => k (.val (.sl q o n es t) s)) (cell1 (.ptr r off) s) else optK (fun v => k (.val v s)) (cell1 (.ptr r off) s)
  | none => optK (fun v => k (.val v s)) (cell1 (.ptr r off) s)
def loadK (P : Program) (orc : Option (Nat × Nat)) (ty : TypeId) (e : T → AV) (k : Nx → Option β) : T → St → Option β :=
  match shapeT P ty with
  | some (some n) => bif twoT P ty && n.beq 2 then fun t s => opt2 (fun a b => k (.val (.agg [.int .i64 a, .int .i64 b]) s)) (cellsAt 2 (e t) s)
    else fun t s => optK (fun v => k (.val (.agg v) s)) (cellsAt n (e t) s)
  | some none => match P.underlying ty with
    | some (.int kd) => fun t s => opt1 kd (fun n => k (.val (.int kd n) s)) (cell1 (e t) s)
    | some (.slice _) => fun t s => match e t with
      | .ptrL cs off => optLst (fun c n t nl => k (.val (.lst c n t nl) s)) (cs[off]?)
      | .ptr r off => loadS orc k r off s
      | a => optK (fun v => k (.val v s)) (cell1 a s)
    | _ => fun t s => optK (fun v => k (.val v s)) (cell1 (e t) s)
  | none => fun _ _ => none

def appendTK (s : St) (es r off len : Nat) (new : List AV) (n : Nat) (o q : Row) (k : Nx → Option β) : Option β :=
  optK (fun old =>
    let e := o.pos + off + len * es
    let f := bif Nat.ble q.ext e then q.fep else q.fep + 1
    let x := e + n * es
    let ext := bif Nat.ble q.ext x then x else q.ext
    let s1 := bif o.root.beq r then s.set r (.row { o with solo := false, ep := (bif o.solo then q.fep else o.ep), fep := f, ext := ext })
      else (s.set o.root (.row { q with fep := f, ext := ext }))
    k (.val (.sl s1.next 0 (len + n) es false) (s1.push (.row { vals := old ++ new, root := o.root, pos := o.pos + off, ep := f, fep := 0, ext := 0, solo := false, ty := o.ty }))))
    (cutN (len * es) off o.vals)

def appendAK (ty : TypeId) (es : Nat) (a : AV) (new : List AV) (n : Nat) (s : St) (k : Nx → Option β) : Option β :=
  match a with
  | .lst cs len tight nl => byB (n.beq 0) (k (.val (.lst cs len tight nl) s))
    (ifK (tight && cs.length.beq (len * es)) (k (.val (.sl s.next 0 (len + n) es false) (pushRow s ty (cs ++ new)))))
  | .sl r off len es' tight => byB (n.beq 0) (k (.val (.sl r off len es' tight) s))
    (ifK (es.beq es') (optK (fun o => ifK (o.ty.beq ty) (match tight with
      | true => optK (fun old => k (.val (.sl s.next 0 (len + n) es false) (pushRow s ty (old ++ new)))) (cutN (len * es) off o.vals)
      | false => match s.get o.root with
        | some (.row q) => appendTK s es r off len new n o q k
        | _ => none)) (rowAt s r)))
  | _ => none

def appendK (P : Program) (ty tx : TypeId) (a x : T → AV) (k : Nx → Option β) : T → St → Option β :=
  bif seqT P tx then
  match sliceElemT P ty with
  | some e => match sizeT P e, bytesT P e, zeroT P e with
    | some n, some b, some z => bif Nat.ble b 65536 && n.beq z.cells.length then
        fun t s => match lenA (x t), lenA (a t) with
        | some m, some j => ifK (Nat.ble (j + m) 1073741824) (optK (fun new => ifK (new.all AV.single) (appendAK e n (a t) new m s k)) (elemsN n m (x t) s))
        | _, _ => none
      else fun _ _ => none
    | _, _, _ => fun _ _ => none
  | none => fun _ _ => none
  else fun _ _ => none

def indexAddrK (P : Program) (ty : TypeId) (x i : T → AV) (k : Nx → Option β) : T → St → Option β :=
  match P.underlying ty with
  | some (.slice e) => match sizeT P e with
    | some n => fun t s => match i t, x t with
      | .int _ (.ofNat i), .sl r off len es _ => ifK (Nat.blt i len && n.beq es) (k (.val (.ptr r (off + i * n)) s))
      | .int _ (.ofNat i), .lst cs len _ _ => ifK (Nat.blt i len && nonNil cs) (k (.val (.ptrL cs (i * n)) s))
      | _, _ => none
    | none => fun _ _ => none
  | _ => fun t s => nxK k (indexAddrC P ty x i t s)

/-- a store, to a place that may not be known -/
def storeK (n : Option Nat) (a x : T → AV) (k : Nx → Option β) : T → St → Option β :=
  match n with
  | some n => fun t s => match a t with
    | .ptr r off => ifK (n.beq (x t).cells.length && (x t).cells.all AV.single) (match s.get r with
      | some (.row o) => ifK (valid s o) (bif o.solo then optK (fun vals => k (.skip (s.set r (.row { o with vals := vals })))) (overwrite o.vals off (x t).cells) else nxK k (skipO (storeCellsA s r off (x t).cells)))
      | _ => none)
    | _ => none
  | none => fun _ _ => none

/-- unsafe.String, of bytes that may not be known -/
def unsafeStrK (P : Program) (pt : TypeId) (x n : T → AV) (k : Nx → Option β) : T → St → Option β :=
  match P.underlying pt with
  | some (.pointer e) => match sizeT P e with
    | some 1 => fun t s => match n t, x t with
      | .int .i64 (.ofNat 0), .nilp => k (.val (.str []) s)
      | .int .i64 (.ofNat 0), .ptr _ _ => k (.val (.str []) s)
      | .int .i64 (.ofNat (m + 1)), .ptr r off => match rowAt s r with
        | some o => ifK (o.ty.beq e && Nat.ble (m + 1) 9223372036854775807) (optK (fun cs => optK (fun l => match retire s o with | some s' => k (.val (.str l) s') | none => none) (bytesOf cs)) (cutN (m + 1) off o.vals))
        | none => none
      | _, _ => none
    | _ => fun _ _ => none
  | _ => fun _ _ => none

/-- An operation whose outcome may hang on what is not known: each outcome is gone on with. -/
def opK (o : Oper) (k : Nx → Option β) : T → St → Option β :=
  match o.op with
  | .load ty x => loadK P G.orc ty (evC G x) k
  | .indexAddr ty x i => indexAddrK P ty (evC G x) (evC G i) k
  | .store ty a x => storeK (sizeT P ty) (evC G a) (evC G x) k
  | .call { callee := .value f, args := args, .. } => match f with
    | .func g => fun t s => ck g (evL G args.toList t) s (resK k)
    | _ => let e := evC G f; fun t s => match e t with
      | .fn (.func g) first captured => ck g (first ++ evL G args.toList t ++ captured) s (resK k)
      | _ => none
  | .call { callee := .builtin .append, args := args, argTypes := ts } => match args.toList, ts.toList with
    | [a, x], [ty, tx] => appendK P ty tx (evC G a) (evC G x) k
    | _, _ => fun _ _ => none
  | .call { callee := .builtin .unsafeString, args := args, argTypes := ts } => match args.toList, ts.toList with
    | [x, n], [pt, _] => unsafeStrK P pt (evC G x) (evC G n) k
    | _, _ => fun _ _ => none
  | .mapUpdate ty m key x => match P.underlying ty with
    | some (.map kt _) => match keyT P kt with
      | some d => let m := evC G m; let key := evC G key; let x := evC G x; fun t s => bif isKey d (key t) then match m t with
        | .mp (some r) => match s.get r with
          | some (.mapo es) => optK (fun es => k (.skip (s.set r (.mapo es)))) (putA d (key t) (x t) es)
          | _ => none
        | _ => none
        else none
      | none => fun _ _ => none
    | _ => fun _ _ => none
  | .lookup ty m key true => match P.underlying ty with
    | some (.map kt e) => match zeroT P e, keyT P kt with
      | some z, some d => bif pairZ (some z) then let m := evC G m; let key := evC G key; fun t s => bif isKey d (key t) then match mapEs (m t) s with
          | some es => optK (fun p => k (.val (.tup [.agg [.int .i64 p.2.1, .int .i64 p.2.2], .bool p.1]) s)) (asPair (findA d (key t) es))
          | none => none
          else none
        else fun t s => nxK k (opC P G callF o t s)
      | _, _ => fun _ _ => none
    | _ => fun _ _ => none
  | _ => fun t s => nxK k (opC P G callF o t s)

/-- an effect's outcome; reads that may come behind it are done once more -/
def effK (put : AV → T → T) (chk : T → St → Bool) (fl : List Nat) (t : T) (k : KA β) : Nx → Option β
  | .val v s => ifK (chk (put v t) s) (k .normal (put v t) s)
  | .skip s => ifK (chk (put (.tup []) t) s) (k .normal (put (.tup []) t) s)
  | .dfr g args s => ifK (chk (put (.tup []) { t with ds := (g, args) :: t.ds }) s) (k .normal (put (.tup []) { t with ds := (g, args) :: t.ds }) s)
  | .panic v s => k (.panic v) (maskT fl t) s
  | .fail => none

def itemK (ops : Array Oper) (it : Item) (k : KA β) : T → St → Option β :=
  let put := putC it.p.dst
  let go : T → St → Option β := bif it.p.kd.isEff then let chk := againsC P G callF ops it.chk; fun t s => opK P G callF ck it.p.o (effK put chk it.fl t k) t s
    else fun t s => opK P G callF ck it.p.o (fun nx => goK k (plainEx put t nx)) t s
  match it.p.o.guard with
  | none => go
  | some g => let gd := guardC ops (some g); fun t s => match gd t with
    | some b => bif b then go t s else k .normal (put (.tup []) t) s
    | none => none

def itemsK (ops : Array Oper) : List Item → KA β → T → St → Option β
  | [], k => fun t s => k .normal t s
  | it :: l, k => decideK (slotsOf ops it.p.o) (itemK P G callF ck ops it fun o t s => match o with | .normal => itemsK ops l k t s | o => k o t s)

def regionK (ops : Array Oper) (draw : Bool) : KA β → T → St → Option β :=
  bif draw then match planOf P ops with | some l => itemsK P G callF ck ops l | none => fun _ _ _ => none
  else itemsK P G callF ck ops (plainItems ops)
end

/-- compaction, told to a continuation -/
def keepK (nb : Nat) (s : St) : List Nat → Nat → List AV → (List KItem → List AV → Option β) → Option β
  | _, _, [], k => k [] []
  | us, j, v :: l, k => match v with
    | .sl r off len es tight => byB (Nat.blt r nb) (keepK nb s us j l fun is vs => k is (.sl r off len es tight :: vs))
        (match s.get r with
        | some (.row o) => ifK (valid s o) (ifK (Nat.ble nb o.root && !hasN o.root us) (optK (fun cs => ifK (nonNil cs && AV.plains cs)
            (keepK nb s (o.root :: us) (j + 1) l fun is vs => k (⟨r, off, o, cs⟩ :: is) (.sl (nb + j) 0 len es false :: vs))) (cutX len es off o.vals)))
        | _ => none)
    | v => ifK (AV.under nb v) (keepK nb s us j l fun is vs => k is (v :: vs))
def packK (nb : Nat) (ls : List Nat) (t : T) (s : St) (k : T → St → Option β) : Option β :=
  match t.ds with
  | [] => keepK nb s [] 0 (valsT t ls) fun is vs => ifK (lowOkB s nb nb) (k ⟨slotsT ls vs .nil, t.n, [], t.rc⟩ (packS s nb is))
  | _ => none

def loopK (m : Mode) (nb : Nat) (body : KA β → T → St → Option β) (k : KA β) : Nat → T → St → Option β
  | 0 => fun _ _ => none
  | n + 1 => fun t s => body (fun o t s => match o with
    | .normal => match m with
      | .pack l => packK nb l t s (loopK (.pack l) nb body k n)
      | m => loopK m nb body k n (keepT m t) s
    | o => k o t s) t s

section
variable (P : Program) (G : Glob) (callF : CF) (ck : CK β) (D : Live) (b : Option Nat)

def execK (n : Nat) : Code → Nat → KA β → T → St → Option β
  | .skip, _, k => fun t s => k .normal t s
  | .region _ ops draw, _, k => regionK P G callF ck ops draw k
  | .seq a b, i, k => execK n a i fun o t s => match o with | .normal => execK n b i k t s | o => k o t s
  | .cond c a b, i, k => decideK (match c with | .tmp d => [d] | _ => []) fun t s => match evC G c t with | .bool u => bif u then execK n a i k t s else execK n b i k t s | _ => none
  | .block id c, _, k => execK n c id fun o t s => match o with | .exit j => bif j.beq id then k .normal t s else k (.exit j) t s | o => k o t s
  | .loop c, i, k => fun t s => loopK (D i) (nbOf b s.next) (execK n c i) k n (keepT (D i) t) s
  | .exit id, _, k => fun t s => k (.exit id) t s
  | .ret, _, k => fun t s => k .ret t s
  | .label _, _, k => fun t s => k .normal t s
  | _, _, _ => fun _ _ => none

end
section
variable (P : Program) (G : Glob) (callF : CF) (ck : CK β) (D : Live)
def bodyJ (kr : Res → Option β) (n : Nat) (fn : Option Func) : List AV → St → Option β :=
  match fn with
  | some fn => match fn.body with
    | some body => fun args s => bif Nat.ble args.length fn.ntmps then
        execK P G callF ck D (baseO D s.next) n body 0 (fun o t s => kr (finC P fn.results.toList (callB P G callF n) (.mk o t s))) ⟨setArgs args 0 .nil, fn.ntmps, [], .no⟩ s
      else none
    | none => fun _ _ => none
  | none => fun _ _ => none
end

def noLive : Live := fun _ => .all

/-- Calls, with a continuation. -/
def callK (P : Program) (G : Glob) (X : Known) (loops : Nat) : Nat → CK β
  | 0 => fun _ _ _ _ => none
  | n + 1 => fun f args s kr => match X f with
    | some h => kr (h args s)
    | none => bodyJ P G (callN P G X loops n) (callK P G X loops n) noLive kr loops P.funcs[f]? args s

/-- A function's body: its calls are known, or run n deep. -/
def bodyK (P : Program) (G : Glob) (X : Known) (loops n : Nat) (D : Live) (kr : Res → Option β) (m : Nat) (fn : Option Func) : List AV → St → Option β :=
  bodyJ P G (callN P G X loops n) (callK P G X loops n) D kr m fn

section
variable {P : Program} {G : Glob} {callF : CF} {ck : CK β} {D : Live} {ops : Array Oper} {n : Nat}

theorem Le.cond {u : Bool} {a b c d : Option β} (h1 : Le a c) (h2 : Le b d) : Le (bif u then a else b) (bif u then c else d) := by cases u <;> assumption

theorem Le.ifK {c : Bool} {x : Option β} {y : Option β} (h : c = true → Le x y) : Le (ifK c x) y := by
  cases c with
  | false => exact .none _
  | true => exact h rfl

theorem loadK_le {orc : Option (Nat × Nat)} {ty : TypeId} {e : T → AV} {k k' : Nx → Option β} (hk : ∀ nx, Le (k nx) (k' nx)) (t : T) (s : St) : Le (loadK P orc ty e k t s) (nxK k' (loadC (shapeT P ty) e t s)) := by
  suffices key : ∀ F, loadK P orc ty e k = F → Le (F t s) (nxK k' (loadC (shapeT P ty) e t s)) from key _ rfl
  intro F hF
  unfold loadK at hF
  unfold loadC
  have one : Le (optK (fun v => k (.val v s)) (cell1 (e t) s)) (nxK k' (valO (cell1 (e t) s) s)) := by
    cases cell1 (e t) s with
    | none => exact .none _
    | some v => exact hk _
  split at hF
  · rename_i n hn
    simp only [hn]
    rcases Bool.eq_false_or_eq_true (twoT P ty && n.beq 2) with hb | hb
    · rw [cond_of_true hb] at hF
      subst hF
      simp only [Bool.and_eq_true] at hb
      have := Nat.eq_of_beq_eq_true hb.2
      subst this
      simp only
      generalize cellsAt 2 (e t) s = c
      unfold opt2
      split
      · exact hk _
      · exact .none _
    · rw [cond_of_false hb] at hF
      subst hF
      simp only
      cases cellsAt n (e t) s with
      | none => exact .none _
      | some v => exact hk _
  · rename_i hn
    simp only [hn]
    split at hF
    · rename_i kd hu
      subst hF
      simp only
      generalize cell1 (e t) s = c
      unfold opt1
      split
      · rename_i j n
        rcases Bool.eq_false_or_eq_true (kindEq j kd) with hb | hb
        · rw [cond_of_true hb]
          have := kindEq_eq hb
          subst this
          exact hk _
        · rw [cond_of_false hb]; exact .none _
      · exact .none _
    · subst hF
      simp only
      split
      · rename_i cs off he
        rw [he]
        show Le (optLst _ (cs[off]?)) (nxK k' (valO (cs[off]?) s))
        generalize cs[off]? = c
        unfold optLst
        split
        · exact hk _
        · exact .none _
      · rename_i r off he
        rw [he] at one
        have two : Le (loadS orc k r off s) (nxK k' (valO (cell1 (.ptr r off) s) s)) := by
          unfold loadS
          split
          · rename_i r1 q
            rcases Bool.eq_false_or_eq_true (r.beq r1) with hb | hb
            · rw [cond_of_true hb]
              generalize cell1 (.ptr r off) s = c
              unfold optS
              split
              · rename_i r2 o n es tt
                rcases Bool.eq_false_or_eq_true (r2.beq q) with hb2 | hb2
                · rw [cond_of_true hb2, Nat.eq_of_beq_eq_true hb2]; exact hk _
                · rw [cond_of_false hb2]; exact .none _
              · exact .none _
            · rw [cond_of_false hb]; exact one
          · exact one
        rw [he]; exact two
      · exact one
    · subst hF; exact one
  · subst hF; exact .none _

theorem indexAddrK_le {ty : TypeId} {x i : T → AV} {k k' : Nx → Option β} (hk : ∀ nx, Le (k nx) (k' nx)) (t : T) (s : St) : Le (indexAddrK P ty x i k t s) (nxK k' (indexAddrC P ty x i t s)) := by
  have hplain : ∀ nx, Le (nxK k nx) (nxK k' nx) := fun nx => by cases nx <;> first | exact hk _ | exact .none _
  suffices key : ∀ F, indexAddrK P ty x i k = F → Le (F t s) (nxK k' (indexAddrC P ty x i t s)) from key _ rfl
  intro F hF
  unfold indexAddrK at hF
  split at hF
  · rename_i e hu
    split at hF
    · rename_i n hn
      subst hF
      simp only [indexAddrC, hu, hn]
      split
      · rename_i q m r off len es tt h1 h2
        simp only [h1, h2, natOf]
        refine Le.ifK fun hc => ?_
        rw [hc]; exact hk _
      · rename_i q m cs len tt nl h1 h2
        simp only [h1, h2, natOf]
        refine Le.ifK fun hc => ?_
        rw [hc]; exact hk _
      · exact .none _
    · subst hF; exact .none _
  · subst hF; exact hplain _

theorem appendAK_le {ty : TypeId} {es n : Nat} {a : AV} {new : List AV} {s : St} {k k' : Nx → Option β} (hk : ∀ nx, Le (k nx) (k' nx)) : Le (appendAK ty es a new n s k) (nxK k' (appendA ty es a new n s)) := by
  unfold appendAK appendA
  split
  · cases n.beq 0 with
    | true => exact hk _
    | false => exact Le.ifK fun hc => by simp only [hc, cond_true, cond_false]; exact hk _
  · rename_i r off len es' tight
    cases n.beq 0 with
    | true => exact hk _
    | false =>
      refine Le.ifK fun hc => ?_
      simp only [hc, cond_false, cond_true]
      cases rowAt s r with
      | none => exact .none _
      | some o =>
        simp only [optK]
        refine Le.ifK fun hc2 => ?_
        rw [hc2]
        cases tight with
        | true =>
          simp only [cond_true]
          cases cutN (len * es) off o.vals with
          | none => exact .none _
          | some old => exact hk _
        | false =>
          simp only [cond_true, cond_false]
          split
          · rename_i q hq
            unfold appendTK appendT
            cases cutN (len * es) off o.vals with
            | none => exact .none _
            | some old => simp only [optK, hq]; exact hk _
          · exact .none _
  · exact .none _

theorem unsafeStrK_le {pt : TypeId} {x n : T → AV} {k k' : Nx → Option β} (hk : ∀ nx, Le (k nx) (k' nx)) (t : T) (s : St) : Le (unsafeStrK P pt x n k t s) (nxK k' (unsafeStringC P pt x n t s)) := by
  suffices key : ∀ F, unsafeStrK P pt x n k = F → Le (F t s) (nxK k' (unsafeStringC P pt x n t s)) from key _ rfl
  intro F hF
  unfold unsafeStrK at hF
  unfold unsafeStringC
  split at hF
  · rename_i e hu
    simp only [hu]
    split at hF
    · rename_i hs
      subst hF
      simp only [hs]
      generalize n t = nn
      generalize x t = xx
      split
      · exact hk _
      · exact hk _
      · rename_i m r off
        simp only
        cases rowAt s r with
        | none => exact .none _
        | some o =>
          simp only
          rcases Bool.eq_false_or_eq_true (o.ty.beq e && Nat.ble (m + 1) 9223372036854775807) with hb | hb
          · rw [hb]
            simp only [cond_true]
            cases cutN (m + 1) off o.vals with
            | none => exact .none _
            | some cs =>
              show Le (optK _ (bytesOf cs)) _
              simp only
              cases bytesOf cs with
              | none => exact .none _
              | some l =>
                simp only [optK]
                cases retire s o with
                | none => exact .none _
                | some s' => exact hk _
          · rw [hb]; exact .none _
      · exact .none _
    · subst hF; exact .none _
  · subst hF; exact .none _
theorem appendK_le {ty tx : TypeId} {a x : T → AV} {k k' : Nx → Option β} (hk : ∀ nx, Le (k nx) (k' nx)) (t : T) (s : St) : Le (appendK P ty tx a x k t s) (nxK k' (appendC P ty tx a x t s)) := by
  suffices key : ∀ F, appendK P ty tx a x k = F → Le (F t s) (nxK k' (appendC P ty tx a x t s)) from key _ rfl
  intro F hF
  unfold appendK at hF
  unfold appendC
  rcases Bool.eq_false_or_eq_true (seqT P tx) with hb | hb
  · rw [cond_of_true hb] at hF
    rw [hb]
    split at hF
    · rename_i e he
      simp only [he, cond_true]
      split at hF
      · rename_i n b z h1 h2 h3
        simp only [h1, h2, h3]
        rcases Bool.eq_false_or_eq_true (Nat.ble b 65536 && n.beq z.cells.length) with hc | hc
        · rw [cond_of_true hc] at hF
          subst hF
          simp only [hc, cond_true]
          split
          · rename_i m j hm hj
            simp only [hm, hj]
            refine Le.ifK fun hd => ?_
            rw [hd]
            simp only [cond_true]
            cases elemsN n m (x t) s with
            | none => exact .none _
            | some new =>
              simp only [optK]
              refine Le.ifK fun hn => ?_
              rw [hn]
              exact appendAK_le hk
          · exact .none _
        · rw [cond_of_false hc] at hF; subst hF; exact .none _
      · subst hF; exact .none _
    · subst hF; exact .none _
  · rw [cond_of_false hb] at hF; subst hF; exact .none _

theorem storeK_le {n : Option Nat} {a x : T → AV} {k k' : Nx → Option β} (hk : ∀ nx, Le (k nx) (k' nx)) (t : T) (s : St) : Le (storeK n a x k t s) (nxK k' (storeC n a x t s)) := by
  unfold storeK storeC
  cases n with
  | none => exact .none _
  | some n =>
    simp only
    split
    · rename_i r off e
      refine Le.ifK fun hc => ?_
      rw [e]
      simp only
      rw [cond_of_true hc]
      split
      · rename_i o ho
        refine Le.ifK fun hv => ?_
        have hr : rowAt s r = some o := by unfold rowAt; rw [ho]; simp only [hv, cond_true]
        rcases Bool.eq_false_or_eq_true o.solo with hs | hs
        · rw [cond_of_true hs]
          unfold storeCellsA
          simp only [hr]
          cases overwrite o.vals off (x t).cells with
          | none => exact .none _
          | some vals =>
            simp only [hs, cond_true]
            exact hk _
        · rw [cond_of_false hs]
          cases skipO (storeCellsA s r off (x t).cells) <;> first | exact hk _ | exact .none _
      · exact .none _
    · exact .none _

theorem opK_le (hck : ∀ f args s (kr kr' : Res → Option β), (∀ r, Le (kr r) (kr' r)) → Le (ck f args s kr) (kr' (callF f args s))) {o : Oper} {k k' : Nx → Option β} (hk : ∀ nx, Le (k nx) (k' nx)) (t : T) (s : St) :
    Le (opK P G callF ck o k t s) (nxK k' (opC P G callF o t s)) := by
  have hres : ∀ r, Le (resK k r) (resK k' r) := fun r => by cases r <;> first | exact hk _ | exact .none _
  have hback : ∀ r, resK k' r = nxK k' (backNx r) := fun r => by cases r <;> rfl
  have hplain : Le (nxK k (opC P G callF o t s)) (nxK k' (opC P G callF o t s)) := by cases opC P G callF o t s <;> first | exact hk _ | exact .none _
  suffices key : ∀ F, opK P G callF ck o k = F → Le (F t s) (nxK k' (opC P G callF o t s)) from key _ rfl
  intro F hF
  unfold opK at hF
  split at hF
  · rename_i ty x e
    subst hF
    simp only [opC, e]
    exact loadK_le hk t s
  · rename_i ty x i e
    subst hF
    simp only [opC, e]
    exact indexAddrK_le hk t s
  · rename_i ty a x e
    subst hF
    simp only [opC, e]
    exact storeK_le hk t s
  · rename_i q1 f args q2 e
    simp only [opC, e, callC]
    split at hF
    · rename_i g
      subst hF
      simp only
      rw [← hback]
      exact hck g _ s _ _ hres
    · rename_i hne
      subst hF
      split
      · rename_i g; exact absurd rfl (hne g)
      · simp only
        split
        · rename_i g first captured e2
          simp only [e2]
          rw [← hback]
          exact hck g _ s _ _ hres
        · exact .none _
  · rename_i args ts e
    simp only [opC, e, builtinC]
    split at hF
    · rename_i a x ty tx ha ht
      subst hF
      simp only [ha, ht]
      exact appendK_le hk t s
    · subst hF; exact .none _
  · rename_i args ts e
    simp only [opC, e, builtinC]
    split at hF
    · rename_i x n pt q ha ht
      subst hF
      simp only [ha, ht]
      exact unsafeStrK_le hk t s
    · subst hF; exact .none _
  · rename_i ty m key x e
    simp only [opC, e, mapUpdateC]
    split at hF
    · rename_i kt q hu
      simp only [hu]
      split at hF
      · rename_i d hd
        subst hF
        simp only [hd]
        cases isKey d (evC G key t) with
        | false => exact .none _
        | true =>
          simp only [cond_true]
          split
          · rename_i r hr
            split
            · rename_i es hes
              cases hp : putA d (evC G key t) (evC G x t) es with
              | none => exact .none _
              | some es' =>
                simp only [hr, hes, hp]
                exact hk _
            · exact .none _
          · exact .none _
      · subst hF; exact .none _
    · subst hF; exact .none _
  · rename_i ty m key e
    split at hF
    · rename_i kt el hu
      split at hF
      · rename_i z d hz hd
        rcases Bool.eq_false_or_eq_true (pairZ (some z)) with hp | hp
        · rw [cond_of_true hp] at hF
          subst hF
          simp only [opC, e, lookupC, hu, hz, hd]
          cases isKey d (evC G key t) with
          | false => exact .none _
          | true =>
            simp only [cond_true]
            cases mapEs (evC G m t) s with
            | none => exact .none _
            | some es =>
              simp only
              generalize findA d (evC G key t) es = r
              unfold asPair
              split
              · exact hk _
              · have hz0 : z = .agg [.int .i64 (.ofNat 0), .int .i64 (.ofNat 0)] := by
                  unfold pairZ at hp
                  split at hp
                  · rename_i e2; exact Option.some.inj e2
                  · cases hp
                subst hz0
                exact hk _
              · exact .none _
        · rw [cond_of_false hp] at hF
          subst hF
          exact hplain
      · subst hF; exact .none _
    · subst hF; exact .none _
  · subst hF; exact hplain

theorem effK_le {put : AV → T → T} {chk : T → St → Bool} {fl : List Nat} {t : T} {k k' : KA β} (h : ∀ o t s, Le (k o t s) (k' o t s)) (nx : Nx) : Le (effK put chk fl t k nx) (goK k' (effEx put chk fl t nx)) := by
  have go : ∀ t s, Le (ifK (chk t s) (k .normal t s)) (goK k' (goOn chk t s)) := fun t s => by
    unfold goOn
    cases chk t s with
    | false => exact .none _
    | true => exact h _ _ _
  cases nx with
  | fail => exact .none _
  | panic v s => exact h _ _ _
  | _ => exact go _ _
theorem goK_le {k k' : KA β} (h : ∀ o t s, Le (k o t s) (k' o t s)) (e : Ex) : Le (goK k e) (goK k' e) := by
  cases e with
  | fail => exact .none _
  | mk o t s => exact h o t s

variable (hck : ∀ f args s (kr kr' : Res → Option β), (∀ r, Le (kr r) (kr' r)) → Le (ck f args s kr) (kr' (callF f args s)))
include hck

theorem itemK_le {it : Item} {k k' : KA β} (h : ∀ o t s, Le (k o t s) (k' o t s)) (t : T) (s : St) : Le (itemK P G callF ck ops it k t s) (goK k' (itemC P G callF ops it t s)) := by
  have eff : ∀ t s, Le (opK P G callF ck it.p.o (effK (putC it.p.dst) (againsC P G callF ops it.chk) it.fl t k) t s) (goK k' (runEff (opC P G callF it.p.o) (putC it.p.dst) (againsC P G callF ops it.chk) it.fl t s)) := fun t s x hx => by
    have := opK_le hck (k' := fun nx => goK k' (effEx (putC it.p.dst) (againsC P G callF ops it.chk) it.fl t nx)) (fun nx => effK_le h nx) t s x hx
    unfold runEff
    generalize opC P G callF it.p.o t s = nx at this
    cases nx <;> first | exact this | (simp only [nxK] at this; cases this)
  have pl : ∀ t s, Le (opK P G callF ck it.p.o (fun nx => goK k (plainEx (putC it.p.dst) t nx)) t s) (goK k' (runPlain (opC P G callF it.p.o) (putC it.p.dst) t s)) := fun t s x hx => by
    have := opK_le hck (k' := fun nx => goK k' (plainEx (putC it.p.dst) t nx)) (fun nx => goK_le h _) t s x hx
    unfold runPlain
    generalize opC P G callF it.p.o t s = nx at this
    cases nx <;> first | exact this | (simp only [nxK, plainEx, goK] at this; cases this)
  unfold itemK itemC
  cases hg : it.p.o.guard with
  | none =>
    simp only
    cases it.p.kd.isEff with
    | true => exact eff t s
    | false => exact pl t s
  | some g =>
    simp only [runGuard]
    cases guardC ops (some g) t with
    | none => exact .none _
    | some b =>
      cases b with
      | false => exact h _ _ _
      | true =>
        simp only [cond_true]
        cases it.p.kd.isEff with
        | true => exact eff t s
        | false => exact pl t s

theorem itemsK_le {k k' : KA β} (h : ∀ o t s, Le (k o t s) (k' o t s)) : ∀ (l : List Item) (t : T) (s : St), Le (itemsK P G callF ck ops l k t s) (goK k' (itemsC P G callF ops l t s))
  | [], _, _ => h _ _ _
  | it :: l, t, s => by
    simp only [itemsK, itemsC, thenC]
    rw [decideK_eq]
    intro x hx
    have := itemK_le hck (k' := fun o t s => match o with | .normal => goK k' (itemsC P G callF ops l t s) | o => k' o t s) (fun o t s => by
      cases o <;> first | exact itemsK_le h l t s | exact h _ _ _) t s x hx
    cases he : itemC P G callF ops it t s with
    | fail => rw [he] at this; cases this
    | mk o t1 s1 =>
      rw [he] at this
      cases o <;> exact this

theorem regionK_le {draw : Bool} {k k' : KA β} (h : ∀ o t s, Le (k o t s) (k' o t s)) (t : T) (s : St) : Le (regionK P G callF ck ops draw k t s) (goK k' (regionC P G callF ops draw t s)) := by
  unfold regionK regionC
  cases draw with
  | false => exact itemsK_le hck h _ t s
  | true =>
    simp only [cond_true]
    cases planOf P ops with
    | none => exact .none _
    | some l => exact itemsK_le hck h l t s

omit hck in
theorem keepK_ok {nb : Nat} {s : St} : ∀ {l : List AV} {us : List Nat} {j : Nat} {k : List KItem → List AV → Option β} {x : β}, keepK nb s us j l k = some x → ∃ is vs, keepI nb s us j l = some (is, vs) ∧ k is vs = some x
  | [], us, j, k, x, h => ⟨[], [], rfl, h⟩
  | v :: l, us, j, k, x, h => by
    have other : ∀ {v : AV}, (∀ r off len es tight, v ≠ .sl r off len es tight) → ifK (AV.under nb v) (keepK nb s us j l fun is vs => k is (v :: vs)) = some x → ∃ is vs, keepI nb s us j (v :: l) = some (is, vs) ∧ k is vs = some x := fun {v} hv h => by
      cases hu : AV.under nb v with
      | false => rw [hu] at h; cases h
      | true =>
        rw [hu] at h
        obtain ⟨is, vs, h1, h2⟩ := keepK_ok h
        refine ⟨is, v :: vs, ?_, h2⟩
        unfold keepI
        split
        · exact absurd rfl (hv _ _ _ _ _)
        · rw [hu, h1]; rfl
    unfold keepK at h
    split at h
    · rename_i r off len es tight
      cases hb : Nat.blt r nb with
      | true =>
        rw [hb] at h
        obtain ⟨is, vs, h1, h2⟩ := keepK_ok h
        exact ⟨is, _, by simp only [keepI, hb, cond_true, h1, consV], h2⟩
      | false =>
        rw [hb] at h
        replace h : (match s.get r with
        | some (.row o) => ifK (valid s o) (ifK (Nat.ble nb o.root && !hasN o.root us) (optK (fun cs => ifK (nonNil cs && AV.plains cs)
            (keepK nb s (o.root :: us) (j + 1) l fun is vs => k (⟨r, off, o, cs⟩ :: is) (.sl (nb + j) 0 len es false :: vs))) (cutX len es off o.vals)))
        | _ => none) = some x := h
        split at h
        · rename_i o ho
          cases hv : valid s o with
          | false => rw [hv] at h; cases h
          | true =>
            rw [hv] at h
            simp only [ifK] at h
            cases hr : Nat.ble nb o.root && !hasN o.root us with
            | false => rw [hr] at h; cases h
            | true =>
              rw [hr] at h
              simp only at h
              cases hc : cutX len es off o.vals with
              | none => rw [hc] at h; cases h
              | some cs =>
                rw [hc] at h
                simp only [optK] at h
                cases hp : nonNil cs && AV.plains cs with
                | false => rw [hp] at h; cases h
                | true =>
                  rw [hp] at h
                  obtain ⟨is, vs, h1, h2⟩ := keepK_ok h
                  have hrow : rowAt s r = some o := by unfold rowAt; rw [ho]; simp only [hv, cond_true]
                  exact ⟨_, _, by simp only [keepI, hb, cond_false, hrow, hr, cond_true, hc, hp, h1], h2⟩
        · cases h
    · rename_i hne
      exact other hne h
omit hck in
theorem packK_ok {nb : Nat} {ls : List Nat} {t : T} {s : St} {k : T → St → Option β} {x : β} (h : packK nb ls t s k = some x) : ∃ p, packC nb ls t s = some p ∧ k p.1 p.2 = some x := by
  unfold packK at h
  split at h
  · rename_i hds
    obtain ⟨is, vs, h1, h2⟩ := keepK_ok h
    cases hl : lowOkB s nb nb with
    | false => rw [hl] at h2; cases h2
    | true =>
      rw [hl] at h2
      exact ⟨(⟨slotsT ls vs .nil, t.n, [], t.rc⟩, packS s nb is), by simp only [packC, hds, h1, hl, cond_true], h2⟩
  · cases h
omit hck in
theorem loopK_le {m : Mode} {nb : Nat} {b : KA β → T → St → Option β} {d : K} (hd : ∀ (k k' : KA β), (∀ o t s, Le (k o t s) (k' o t s)) → ∀ t s, Le (b k t s) (goK k' (d t s))) {k k' : KA β} (h : ∀ o t s, Le (k o t s) (k' o t s)) :
    ∀ n t s, Le (loopK m nb b k n t s) (goK k' (loopD m nb d n t s))
  | 0, _, _ => .none _
  | n + 1, t, s => by
    intro x hx
    simp only [loopK] at hx
    have := hd _ (fun o t s => match o with | .normal => (match nextC m nb t s with | some p => goK k' (loopD m nb d n p.1 p.2) | none => none) | o => k' o t s) (fun o t s => by
      cases o with
      | normal =>
        simp only
        cases m with
        | all => exact loopK_le hd h n _ _
        | keep l => exact loopK_le hd h n _ _
        | pack l =>
          simp only [nextC]
          intro x hx
          obtain ⟨p, h1, h2⟩ := packK_ok hx
          rw [h1]
          exact loopK_le hd h n _ _ x h2
      | _ => exact h _ _ _) t s x hx
    simp only [loopD]
    cases he : d t s with
    | fail => rw [he] at this; cases this
    | mk o t1 s1 =>
      rw [he] at this
      cases o with
      | normal =>
        simp only [goK] at this ⊢
        cases hn : nextC m nb t1 s1 with
        | none => rw [hn] at this; cases this
        | some p => rw [hn] at this; exact this
      | _ => exact this

theorem execK_le {b0 : Option Nat} : ∀ (c : Code) (i : Nat) {k k' : KA β}, (∀ o t s, Le (k o t s) (k' o t s)) → ∀ (t : T) (s : St), Le (execK P G callF ck D b0 n c i k t s) (goK k' (execD P G callF D b0 n c i t s))
  | .skip, _, _, _, h, _, _ => h _ _ _
  | .region _ ops draw, _, _, _, h, t, s => regionK_le hck h t s
  | .seq a b, i, k, k', h, t, s => by
    intro x hx
    simp only [execK] at hx
    have := execK_le a i (k' := fun o t s => match o with | .normal => goK k' (execD P G callF D b0 n b i t s) | o => k' o t s) (fun o t s => by
      cases o <;> first | exact execK_le b i h t s | exact h _ _ _) t s x hx
    simp only [execD, thenC]
    cases he : execD P G callF D b0 n a i t s with
    | fail => rw [he] at this; cases this
    | mk o t1 s1 =>
      rw [he] at this
      cases o <;> exact this
  | .cond c a b, i, k, k', h, t, s => by
    simp only [execK, execD, condC]
    rw [decideK_eq]
    cases evC G c t with
    | bool u => cases u <;> simp only [cond_true, cond_false] <;> first | exact execK_le a i h t s | exact execK_le b i h t s
    | _ => exact .none _
  | .block id c, _, k, k', h, t, s => by
    intro x hx
    simp only [execK] at hx
    have := execK_le c id (k' := fun o t s => match o with | .exit j => bif j.beq id then k' .normal t s else k' (.exit j) t s | o => k' o t s) (fun o t s => by
      cases o <;> first | exact Le.cond (h _ _ _) (h _ _ _) | exact h _ _ _) t s x hx
    simp only [execD, blockC]
    cases he : execD P G callF D b0 n c id t s with
    | fail => rw [he] at this; cases this
    | mk o t1 s1 =>
      rw [he] at this
      cases o with
      | exit j =>
        simp only [goK] at this ⊢
        revert this
        cases j.beq id <;> exact fun h => h
      | _ => exact this
  | .loop c, i, _, _, h, _, _ => loopK_le (fun _ _ h t s => execK_le c i h t s) h n _ _
  | .exit _, _, _, _, h, _, _ => h _ _ _
  | .ret, _, _, _, h, _, _ => h _ _ _
  | .label _, _, _, _, h, _, _ => h _ _ _
  | .rangeFunc _ _ _ _, _, _, _, _, _, _ => .none _
  | .scope _, _, _, _, _, _, _ => .none _
  | .goto _, _, _, _, _, _, _ => .none _
  | .refuse _, _, _, _, _, _, _ => .none _

theorem bodyJ_le {kr kr' : Res → Option β} (h : ∀ r, Le (kr r) (kr' r)) (fn : Option Func) (args : List AV) (s : St) : Le (bodyJ P G callF ck D kr n fn args s) (kr' (bodyD P G callF D n fn args s)) := by
  unfold bodyJ bodyD
  cases fn with
  | none => exact .none _
  | some fn =>
    simp only
    cases hbd : fn.body with
    | none => exact .none _
    | some body =>
      simp only
      cases Nat.ble args.length fn.ntmps with
      | false => exact .none _
      | true =>
        simp only [cond_true]
        intro x hx
        have := execK_le hck (D := D) body 0 (k' := fun o t s => kr' (finC P fn.results.toList (callB P G callF n) (.mk o t s))) (fun o t s => h _) _ s x hx
        generalize execD P G callF D (baseO D s.next) n body 0 ⟨setArgs args 0 .nil, fn.ntmps, [], .no⟩ s = e at this
        cases e with
        | fail => cases this
        | mk o t1 s1 => exact this
end

theorem noLive_exec {P : Program} {G : Glob} {callF : CF} {b : Option Nat} {n : Nat} : ∀ (c : Code) (i : Nat), execD P G callF noLive b n c i = execC P G callF n c
  | .skip, _ => rfl
  | .region _ _ _, _ => rfl
  | .seq a b, i => by simp only [execD, execC]; rw [noLive_exec a, noLive_exec b]
  | .cond c a b, i => by simp only [execD, execC]; rw [noLive_exec a, noLive_exec b]
  | .block id c, _ => by simp only [execD, execC]; rw [noLive_exec c]
  | .loop c, i => by
    simp only [execD, execC]
    rw [noLive_exec c]
    have : ∀ nb m, loopD (noLive i) nb (execC P G callF n c) m = loopN (execC P G callF n c) m := by
      intro nb m
      induction m with
      | zero => rfl
      | succ m ih =>
        funext t s
        simp only [loopD, loopN, thenC]
        cases execC P G callF n c t s with
        | fail => rfl
        | mk o t1 s1 => cases o <;> simp only [← ih] <;> rfl
    funext t s
    rw [this]
    rfl
  | .exit _, _ => rfl
  | .ret, _ => rfl
  | .label _, _ => rfl
  | .rangeFunc _ _ _ _, _ => rfl
  | .scope _, _ => rfl
  | .goto _, _ => rfl
  | .refuse _, _ => rfl

theorem noLive_body {P : Program} {G : Glob} {callF : CF} {n : Nat} (fn : Option Func) : bodyD P G callF noLive n fn = bodyC P G callF n fn := by
  unfold bodyD bodyC
  cases fn with
  | none => rfl
  | some fn =>
    simp only
    cases fn.body with
    | none => rfl
    | some c => simp only [noLive_exec c]

theorem callK_le {P : Program} {G : Glob} {X : Known} {loops : Nat} : ∀ (n : Nat) (f : FuncId) (args : List AV) (s : St) (kr kr' : Res → Option β), (∀ r, Le (kr r) (kr' r)) → Le (callK P G X loops n f args s kr) (kr' (callN P G X loops n f args s))
  | 0, _, _, _, _, _, _ => .none _
  | n + 1, f, args, s, kr, kr', h => by
    simp only [callK, callN]
    cases X f with
    | some g => exact h _
    | none =>
      simp only
      rw [← noLive_body]
      exact bodyJ_le (callK_le n) h _ args s

theorem bodyK_le {P : Program} {G : Glob} {X : Known} {loops n m : Nat} {D : Live} {kr : Res → Option β} {fn : Option Func} {args : List AV} {s : St} {x : β} (h : bodyK P G X loops n D kr m fn args s = some x) :
    kr (bodyD P G (callN P G X loops n) D m fn args s) = some x := bodyJ_le (callK_le n) (fun _ => .refl _) fn args s x h
end

/-! ## What is run from nothing -/
mutual
/-- it leads nowhere -/
def AV.flat : AV → Bool
  | .ptr _ _ | .sl _ _ _ _ _ | .mp (some _) | .hptr _ | .ptrL _ _ | .lst (_ :: _) _ _ _ => false
  | .agg l | .tup l => AV.flats l
  | .fn _ a b => AV.flats a && AV.flats b
  | .ifc _ v => AV.flat v
  | _ => true
def AV.flats : List AV → Bool
  | [] => true
  | a :: l => AV.flat a && AV.flats l
end

mutual
theorem VR.flat {E E1 : Env} : ∀ {a : AV} {v : Value}, VR E1 a v → a.flat = true → VR E a v
  | _, _, .int k n, _ => .int k n
  | _, _, .bool b, _ => .bool b
  | _, _, .str s, _ => .str s
  | _, _, .nilp, _ => .nilp
  | _, _, .ptr _ _, p => by simp [AV.flat] at p
  | _, _, .ptrL _ _ _, p => by simp [AV.flat] at p
  | _, _, .sl _ _ _ _, p => by simp [AV.flat] at p
  | _, _, .lst .nil hl ht hn hc _, _ => .lst .nil hl ht hn hc (fun h => absurd rfl h)
  | _, _, .lst (.cons _ _) _ _ _ _ _, p => by simp [AV.flat] at p
  | _, _, .mpn, _ => .mpn
  | _, _, .mp _, p => by simp [AV.flat] at p
  | _, _, .hp _, p => by simp [AV.flat] at p
  | _, _, .fn a b, p => by
    simp [AV.flat] at p
    exact .fn (VRL.flat a p.1) (VRL.flat b p.2)
  | _, _, .nilfn, _ => .nilfn
  | _, _, .ifc h, p => .ifc (VR.flat h (by simpa [AV.flat] using p))
  | _, _, .nilifc, _ => .nilifc
  | _, _, .agg h, p => .agg (VRL.flat h (by simpa [AV.flat] using p))
  | _, _, .tup h, p => .tup (VRL.flat h (by simpa [AV.flat] using p))
  | _, _, .lit v h, _ => .lit v h
  | _, _, .undef v, _ => .undef v
theorem VRL.flat {E E1 : Env} : ∀ {l : List AV} {r : List Value}, VRL E1 l r → AV.flats l = true → VRL E l r
  | _, _, .nil, _ => .nil
  | _, _, .cons h t, p => by
    simp [AV.flats] at p
    exact .cons (VR.flat h p.1) (VRL.flat t p.2)
end

def Env.none : Env := ⟨fun _ => .none, fun _ _ => .none, fun _ => 0, fun _ => .none, fun _ _ => False, fun _ _ _ _ => False⟩

/-- Nothing is numbered. -/
def Env.bare (E : Env) : Env := { Env.none with z := E.z, bsz := E.bsz, H := E.H }

theorem Wf.empty : Wf St.empty where
  fresh r _ := St.get_empty r
  root r o e := by rw [St.get_empty] at e; cases e
  solo r o e := by rw [St.get_empty] at e; cases e
  rle r o e := by rw [St.get_empty] at e; cases e

theorem Rel.bare {E : Env} {s : St} {w : World} (h : Rel E s w) : Rel E.bare St.empty w where
  wf := .empty
  lt r b base e := by cases e
  obj r p e := by cases e
  z := h.z
  zap b o v r base _ e := by cases e
  row r o b base _ e := by cases e
  mapo r es b base _ e := by cases e
  iter r x n b base _ e := by cases e
  coh r1 r2 b b1 b2 e := by cases e
  b0 r o b base _ e := by cases e
  hid n d b _ e := by cases e
  own n c e := e.elim
  hlt n b e := by cases e

/-- What was run from nothing left all alone. -/
theorem Step.alone {E E1 : Env} {s s1 : St} {w w' : World} (h0 : Rel E s w) (h : Step E.bare St.empty w E1 s1 w') : Step E s w E s w' := by
  have hfr : ∀ b, b < w.heap.size → w'.heap[b]? = w.heap[b]? := fun b hb => h.fr b hb (fun r base e => by cases e) (fun n e => e)
  refine ⟨.refl E, fun _ _ => rfl, fun r b base e => .inr ⟨r, base, e⟩, ?_, fun _ _ _ _ _ => rfl, Nat.le_refl _, fun b hb _ _ => hfr b hb, h.os, h.tape, h.output, h.size, fun _ _ e => .inl e, fun _ d e => ⟨d, e⟩⟩
  refine ⟨h0.wf, fun r b base e => ⟨(h0.lt r b base e).1, Nat.lt_of_lt_of_le (h0.lt r b base e).2 h.size⟩, h0.obj, fun b o v e => h.rel.z b o v (h.le.z b o v e), h0.zap, ?_, ?_, h0.iter, h0.coh, h0.b0,
    fun n d b e eb w1 hw => h0.hid n d b e eb w1 fun k hk => (hw k hk).trans (hfr k (h0.own n k hk).1), fun n k hk => ⟨Nat.lt_of_lt_of_le (h0.own n k hk).1 h.size, (h0.own n k hk).2⟩, h0.hlt⟩
  · intro r o b base e el
    rw [hfr b (h0.lt r b base el).2]
    exact h0.row r o b base e el
  · intro r es b base e el
    rw [hfr b (h0.lt r b base el).2]
    exact h0.mapo r es b base e el

/-- The globals' cells lead to nothing that is numbered. -/
def GlobPlain (G : Glob) : Prop := ∀ g cs, G.at_ g = some cs → AV.plains cs = true

theorem GlobOk.bare {E : Env} {w : World} {G : Glob} (hp : GlobPlain G) (h : GlobOk E G w) : GlobOk E.bare G w := ⟨⟨fun g cs hg => by
  obtain ⟨vs, h1, h2⟩ := h.1.1 g cs hg
  exact ⟨vs, VRL.plain (E := E.bare) (E1 := E) (fun _ _ _ e => e) h1 (hp g cs hg), h2⟩, fun g n hg => h.1.2 g n hg⟩, h.2⟩

def Res.val? : Res → Option AV
  | .ret v _ => some v
  | _ => none

/-- A function of values that lead to nothing that is numbered, run from nothing. -/
theorem flat_known {P : Program} {G : Glob} (hm : P.follows .mixedOrders = true) (hn : NoNG P) (hp : GlobPlain G) {X : Known} (hX : KnownOk P G X) {D : Live} {m loops n : Nat} {f : FuncId} {F : List AV → Option AV}
    (hF : ∀ args x, F args = some x → AV.plains args = true ∧ x.flat = true ∧ bodyK P G X loops n D Res.val? m P.funcs[f]? args St.empty = some x) :
    ∀ (args : List AV) (s : St) (E : Env) (w : World) (vs : List Value), Rel E s w → GlobOk E G w → VRL E args vs → ResOk P E s w f vs (pureX F args s) := by
  intro args s E w vs h hG ha
  unfold pureX
  cases hx : F args with
  | none => trivial
  | some x =>
    obtain ⟨h1, h2, h3⟩ := hF args x hx
    have h3 := bodyK_le h3
    have := bodyD_ok (D := D) hm hn (callN_ok hm hn hX loops n) m f args St.empty E.bare w vs h.bare (hG.bare hp) (VRL.plain (E := E.bare) (E1 := E) (fun _ _ _ e => e) ha h1)
    cases hb : bodyD P G (callN P G X loops n) D m P.funcs[f]? args St.empty with
    | ret y s1 =>
      rw [hb] at h3 this
      simp only [Res.val?, Option.some.injEq] at h3
      subst h3
      rcases this with ⟨h4, h5⟩ | ⟨v', w', E', h4, h5, h6⟩
      · exact .inl ⟨h4, Calls.mono h5 fun e w' ⟨v', E', he, hs, hv⟩ => ⟨v', E, he, .alone h hs, hv.flat h2⟩⟩
      · exact .inr ⟨v', w', E, h4, .alone h h5, h6.flat h2⟩
    | _ => rw [hb] at h3; cases h3

theorem returns_of_K {P : Program} {G : Glob} (hm : P.follows .mixedOrders = true) (hn : NoNG P) {X : Known} (hX : KnownOk P G X) {D : Live} {m loops n : Nat} {f : FuncId} {args : List AV} {s : St} {E : Env} {w : World} {vs : List Value} {x : AV}
    (h : Rel E s w) (hG : GlobOk E G w) (ha : VRL E args vs) (hr : bodyK P G X loops n D Res.val? m P.funcs[f]? args s = some x) (hb : ∀ fn, P.funcs[f]? = some fn → fn.body.isSome = true) :
    Calls P f ⟨vs⟩ w fun e w' => ∃ v' E' s', e = .returned v' ∧ Step E s w E' s' w' ∧ VR E' x v' := by
  have hr := bodyK_le hr
  have := bodyD_ok (D := D) hm hn (callN_ok hm hn hX loops n) m f args s E w vs h hG ha
  cases hb' : bodyD P G (callN P G X loops n) D m P.funcs[f]? args s with
  | ret y s1 =>
    rw [hb'] at hr this
    simp only [Res.val?, Option.some.injEq] at hr
    subst hr
    rcases this with ⟨_, h2⟩ | ⟨v', w', E', h1, _, _⟩
    · exact Calls.mono h2 fun e w' ⟨v', E', he, hs, hv⟩ => ⟨v', E', s1, he, hs, hv⟩
    · cases hf : P.funcs[f]? with
      | none => rw [hf] at hb'; simp [bodyD] at hb'
      | some fn =>
        have h4 := run_callFunc ⟨fn, hf, hb fn hf, hn f fn hf⟩ ⟨vs⟩ w
        rw [h4] at h1
        cases h1
  | _ => rw [hb'] at hr; cases hr
end Go.Am
end
