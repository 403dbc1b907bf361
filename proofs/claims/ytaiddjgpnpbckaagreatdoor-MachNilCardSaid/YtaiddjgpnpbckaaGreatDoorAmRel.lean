/- How the second meaning's values and memory stand to the model's own: definitions and first facts. -/
import Derived.Test.YtaiddjgpnpbckaaGreatDoorAmDef
import Derived.Laws.AppendOwn
import Derived.Laws.Sem
import Derived.Below
set_option autoImplicit false
namespace Go.Am

/-! ## Trees -/
theorem pathF_inj : ∀ (f : Nat) (n : Nat), n ≤ f → ∀ (g m : Nat), m ≤ g → pathF f n = pathF g m → n = m
  | 0, n, hn, g, m, hm, h => by
    have hn0 : n = 0 := by omega
    subst hn0
    cases g with
    | zero => omega
    | succ g =>
      by_cases e : m = 0
      · exact e.symm
      · simp only [pathF] at h
        have : m.beq 0 = false := by cases m with | zero => exact absurd rfl e | succ m => rfl
        simp [this] at h
  | f + 1, n, hn, g, m, hm, h => by
    cases g with
    | zero =>
      have hm0 : m = 0 := by omega
      subst hm0
      by_cases e : n = 0
      · exact e
      · have : n.beq 0 = false := by cases n with | zero => exact absurd rfl e | succ m => rfl
        simp [pathF, this] at h
    | succ g =>
      by_cases en : n = 0
      · by_cases em : m = 0
        · omega
        · have : m.beq 0 = false := by cases m with | zero => exact absurd rfl em | succ m => rfl
          subst en
          simp [pathF, this] at h
      · have hnb : n.beq 0 = false := by cases n with | zero => exact absurd rfl en | succ m => rfl
        by_cases em : m = 0
        · subst em
          simp [pathF, hnb] at h
        · have hmb : m.beq 0 = false := by cases m with | zero => exact absurd rfl em | succ m => rfl
          simp only [pathF, hnb, hmb, cond_false, List.cons.injEq] at h
          obtain ⟨h1, h2⟩ := h
          have h3 := pathF_inj f ((n - 1) / 2) (by omega) g ((m - 1) / 2) (by omega) h2
          have h5 : (n - 1) % 2 = (m - 1) % 2 := by
            rcases Nat.mod_two_eq_zero_or_one (n - 1) with a | a <;> rcases Nat.mod_two_eq_zero_or_one (m - 1) with b | b <;> rw [a, b] at h1 <;> first | omega | (exact absurd h1 (by decide))
          omega

theorem pathOf_inj {n m : Nat} (h : pathOf n = pathOf m) : n = m := pathF_inj n n (Nat.le_refl _) m m (Nat.le_refl _) h

section
variable {α : Type}
theorem Tr.getP_nil (p : List Bool) : (Tr.nil : Tr α).getP p = none := by cases p <;> rfl
theorem Tr.getP_setP_same (x : α) : ∀ (p : List Bool) (t : Tr α), (t.setP x p).getP p = some x
  | [], .nil => rfl
  | [], .node _ _ _ => rfl
  | true :: p, .nil => by simp [Tr.setP, Tr.getP, Tr.getP_setP_same x p]
  | false :: p, .nil => by simp [Tr.setP, Tr.getP, Tr.getP_setP_same x p]
  | true :: p, .node _ _ _ => by simp [Tr.setP, Tr.getP, Tr.getP_setP_same x p]
  | false :: p, .node _ _ _ => by simp [Tr.setP, Tr.getP, Tr.getP_setP_same x p]
theorem Tr.getP_setP_ne (x : α) : ∀ (p q : List Bool) (t : Tr α), p ≠ q → (t.setP x p).getP q = t.getP q
  | [], [], _, h => absurd rfl h
  | [], true :: q, .nil, _ => by simp [Tr.setP, Tr.getP, Tr.getP_nil]
  | [], false :: q, .nil, _ => by simp [Tr.setP, Tr.getP, Tr.getP_nil]
  | [], _ :: q, .node _ _ _, _ => rfl
  | true :: p, [], .nil, _ => rfl
  | false :: p, [], .nil, _ => rfl
  | true :: p, [], .node _ _ _, _ => rfl
  | false :: p, [], .node _ _ _, _ => rfl
  | true :: p, true :: q, .nil, h => by simp [Tr.setP, Tr.getP, Tr.getP_setP_ne x p q .nil (fun e => h (by rw [e])), Tr.getP_nil]
  | false :: p, false :: q, .nil, h => by simp [Tr.setP, Tr.getP, Tr.getP_setP_ne x p q .nil (fun e => h (by rw [e])), Tr.getP_nil]
  | true :: p, false :: q, .nil, _ => by simp [Tr.setP, Tr.getP, Tr.getP_nil]
  | false :: p, true :: q, .nil, _ => by simp [Tr.setP, Tr.getP, Tr.getP_nil]
  | true :: p, true :: q, .node _ _ r, h => by simp [Tr.setP, Tr.getP, Tr.getP_setP_ne x p q r (fun e => h (by rw [e]))]
  | false :: p, false :: q, .node _ l _, h => by simp [Tr.setP, Tr.getP, Tr.getP_setP_ne x p q l (fun e => h (by rw [e]))]
  | true :: p, false :: q, .node _ _ _, _ => by simp [Tr.setP, Tr.getP]
  | false :: p, true :: q, .node _ _ _, _ => by simp [Tr.setP, Tr.getP]
theorem Tr.get_set (t : Tr α) (n m : Nat) (x : α) : (t.set n x).get m = if n = m then some x else t.get m := by
  unfold Tr.get Tr.set
  by_cases h : n = m
  · subst h; simp [Tr.getP_setP_same]
  · rw [if_neg h, Tr.getP_setP_ne x _ _ _ (fun e => h (pathOf_inj e))]
end

theorem St.get_set (s : St) (r q : Nat) (o : AObj) : (s.set r o).get q = if r = q then some o else s.get q := Tr.get_set _ _ _ _
theorem St.get_set_same (s : St) (r : Nat) (o : AObj) : (s.set r o).get r = some o := by rw [St.get_set, if_pos rfl]
theorem St.get_set_ne (s : St) {r q : Nat} (o : AObj) (h : r ≠ q) : (s.set r o).get q = s.get q := by rw [St.get_set, if_neg h]
@[simp] theorem St.next_set (s : St) (r : Nat) (o : AObj) : (s.set r o).next = s.next := rfl
@[simp] theorem St.next_push (s : St) (o : AObj) : (s.push o).next = s.next + 1 := rfl
theorem St.get_push (s : St) (q : Nat) (o : AObj) : (s.push o).get q = if s.next = q then some o else s.get q := Tr.get_set _ _ _ _
theorem St.get_empty (r : Nat) : St.empty.get r = none := by simp [St.get, St.empty, Tr.get, Tr.getP_nil]

/-! ## Values -/

/-- Where what the second meaning numbers lies; what stays; how large blocks are. -/
structure Env where
  loc : Nat → Option (Nat × Nat)
  z : Nat → Nat → Option Value
  bsz : Nat → Nat
  /-- where what is known by its meaning alone lies, which blocks are its own, and what the meaning says of them -/
  hb : Nat → Option Nat
  own : Nat → Nat → Prop
  H : Hid → Nat → (Nat → Prop) → World → Prop

mutual
inductive VR (E : Env) : AV → Value → Prop
  | int (k : IntKind) (n : Int) : VR E (.int k n) (.int k n)
  | bool (b : Bool) : VR E (.bool b) (.bool b)
  | str (s : ByteArray) : VR E (.str (s.data.toList.map (·.toNat))) (.string s)
  | nilp : VR E .nilp (.pointer none)
  | ptr {r b base : Nat} (off : Nat) (h : E.loc r = some (b, base)) : VR E (.ptr r off) (.pointer (some ⟨b, base + off, none⟩))
  | ptrL {cs : List AV} {vs : List Value} {b base : Nat} (off : Nat) (h : VRL E cs vs) (hz : ∀ i v, vs[i]? = some v → E.z b (base + i) = some v) :
      VR E (.ptrL cs off) (.pointer (some ⟨b, base + off, none⟩))
  | sl {r b base off len es cap : Nat} {tight : Bool} {a : Option Addr} (h : E.loc r = some (b, base)) (hl : len ≤ cap) (ht : tight = true → cap = len)
      (ha : 0 < cap → a = some ⟨b, base + off, none⟩ ∧ base + off + cap * es ≤ E.bsz b) : VR E (.sl r off len es tight) (.slice a len cap)
  | lst {cs : List AV} {vs : List Value} {len cap : Nat} {tight nl : Bool} {a : Option Addr} (h : VRL E cs vs) (hl : len ≤ cap) (ht : tight = true → cap = len)
      (hn : a.isNone = nl) (hc : a = none → cap = 0) (hz : vs ≠ [] → ∃ b base, a = some ⟨b, base, none⟩ ∧ ∀ i v, vs[i]? = some v → E.z b (base + i) = some v) :
      VR E (.lst cs len tight nl) (.slice a len cap)
  | mpn : VR E (.mp none) (.map none)
  | mp {r b : Nat} (h : E.loc r = some (b, 0)) : VR E (.mp (some r)) (.map (some b))
  | hp {n b : Nat} (h : E.hb n = some b) : VR E (.hptr n) (.pointer (some ⟨b, 0, none⟩))
  | fn {f : Fn} {a b : List AV} {x y : List Value} (ha : VRL E a x) (hb : VRL E b y) : VR E (.fn f a b) (.func f ⟨x⟩ ⟨y⟩)
  | nilfn : VR E .nilfn .nilFunc
  | ifc {t : TypeId} {a : AV} {v : Value} (h : VR E a v) : VR E (.ifc t a) (.iface t v)
  | nilifc : VR E .nilifc .nilIface
  | agg {a : List AV} {x : List Value} (h : VRL E a x) : VR E (.agg a) (.agg ⟨x⟩)
  | tup {a : List AV} {x : List Value} (h : VRL E a x) : VR E (.tup a) (.tuple ⟨x⟩)
  | undef (v : Value) : VR E .undef v
inductive VRL (E : Env) : List AV → List Value → Prop
  | nil : VRL E [] []
  | cons {a : AV} {v : Value} {l : List AV} {r : List Value} (h : VR E a v) (hl : VRL E l r) : VRL E (a :: l) (v :: r)
end

/-- What E says, E' says. -/
structure Env.le (E E' : Env) : Prop where
  loc : ∀ r p, E.loc r = some p → E'.loc r = some p
  z : ∀ b o v, E.z b o = some v → E'.z b o = some v
  bsz : ∀ r b base, E.loc r = some (b, base) → E'.bsz b = E.bsz b
  hb : ∀ n b, E.hb n = some b → E'.hb n = some b
  H : E'.H = E.H

theorem Env.le.refl (E : Env) : E.le E := ⟨fun _ _ h => h, fun _ _ _ h => h, fun _ _ _ _ => rfl, fun _ _ h => h, rfl⟩
theorem Env.le.trans {A B C : Env} (h : A.le B) (k : B.le C) : A.le C :=
  ⟨fun r p e => k.loc r p (h.loc r p e), fun b o v e => k.z b o v (h.z b o v e), fun r b base e => (k.bsz r b base (h.loc r _ e)).trans (h.bsz r b base e), fun n b e => k.hb n b (h.hb n b e), k.H.trans h.H⟩

mutual
theorem VR.mono {E E' : Env} (he : E.le E') : ∀ {a : AV} {v : Value}, VR E a v → VR E' a v
  | _, _, .int k n => .int k n
  | _, _, .bool b => .bool b
  | _, _, .str s => .str s
  | _, _, .nilp => .nilp
  | _, _, .ptr off h => .ptr off (he.loc _ _ h)
  | _, _, .ptrL off h hz => .ptrL off (VRL.mono he h) (fun i v e => he.z _ _ _ (hz i v e))
  | _, _, .sl h hl ht ha => .sl (he.loc _ _ h) hl ht (fun hc => ⟨(ha hc).1, by rw [he.bsz _ _ _ h]; exact (ha hc).2⟩)
  | _, _, .lst h hl ht hn hc hz => .lst (VRL.mono he h) hl ht hn hc (fun hv => let ⟨b, base, ea, hb⟩ := hz hv; ⟨b, base, ea, fun i v e => he.z _ _ _ (hb i v e)⟩)
  | _, _, .mpn => .mpn
  | _, _, .mp h => .mp (he.loc _ _ h)
  | _, _, .hp h => .hp (he.hb _ _ h)
  | _, _, .fn ha hb => .fn (VRL.mono he ha) (VRL.mono he hb)
  | _, _, .nilfn => .nilfn
  | _, _, .ifc h => .ifc (VR.mono he h)
  | _, _, .nilifc => .nilifc
  | _, _, .agg h => .agg (VRL.mono he h)
  | _, _, .tup h => .tup (VRL.mono he h)
  | _, _, .undef v => .undef v
theorem VRL.mono {E E' : Env} (he : E.le E') : ∀ {a : List AV} {v : List Value}, VRL E a v → VRL E' a v
  | _, _, .nil => .nil
  | _, _, .cons h hl => .cons (VR.mono he h) (VRL.mono he hl)
end

section
variable {E : Env}
theorem VRL.length {l : List AV} {r : List Value} (h : VRL E l r) : l.length = r.length := by
  induction l generalizing r with
  | nil => cases h; rfl
  | cons a l ih => cases h with | cons h hl => simp [ih hl]
theorem VRL.get {l : List AV} {r : List Value} (h : VRL E l r) (i : Nat) : (l[i]? = none ∧ r[i]? = none) ∨ ∃ a v, l[i]? = some a ∧ r[i]? = some v ∧ VR E a v := by
  induction l generalizing r i with
  | nil => cases h; simp
  | cons a l ih =>
    cases h with
    | cons h hl =>
      cases i with
      | zero => exact .inr ⟨a, _, rfl, rfl, h⟩
      | succ i => simpa using ih hl i
theorem VRL.at_ {l : List AV} {r : List Value} (h : VRL E l r) {i : Nat} {a : AV} (hi : l[i]? = some a) : ∃ v, r[i]? = some v ∧ VR E a v := by
  rcases h.get i with ⟨h1, _⟩ | ⟨a', v, h1, h2, h3⟩
  · rw [h1] at hi; cases hi
  · rw [h1] at hi; cases hi; exact ⟨v, h2, h3⟩
theorem VRL.append {l l' : List AV} {r r' : List Value} (h : VRL E l r) (h' : VRL E l' r') : VRL E (l ++ l') (r ++ r') := by
  induction l generalizing r with
  | nil => cases h; exact h'
  | cons a l ih => cases h with | cons h hl => exact .cons h (ih hl)
theorem VRL.drop {l : List AV} {r : List Value} (h : VRL E l r) (n : Nat) : VRL E (l.drop n) (r.drop n) := by
  induction n generalizing l r with
  | zero => exact h
  | succ n ih => cases h with | nil => simpa using VRL.nil | cons h hl => simpa using ih hl
theorem VRL.take {l : List AV} {r : List Value} (h : VRL E l r) (n : Nat) : VRL E (l.take n) (r.take n) := by
  induction n generalizing l r with
  | zero => simpa using VRL.nil
  | succ n ih => cases h with | nil => simpa using VRL.nil | cons h hl => simpa using VRL.cons h (ih hl)
theorem VRL.of_get {l : List AV} {r : List Value} (hl : l.length = r.length) (h : ∀ (i : Nat) (a : AV) (v : Value), l[i]? = some a → r[i]? = some v → VR E a v) : VRL E l r := by
  induction l generalizing r with
  | nil => cases r with | nil => exact .nil | cons => simp at hl
  | cons a l ih =>
    cases r with
    | nil => simp at hl
    | cons v r => exact .cons (h 0 a v rfl rfl) (ih (by simpa using hl) fun i a v h1 h2 => h (i + 1) a v (by simpa using h1) (by simpa using h2))
theorem VRL.map_undef (r : List Value) : VRL E (r.map fun _ => AV.undef) r := by
  induction r with
  | nil => exact .nil
  | cons v r ih => exact .cons (.undef v) ih

theorem takeN_eq : ∀ {n : Nat} {l q : List AV}, takeN n l = some q → q = l.take n ∧ n ≤ l.length
  | 0, l, q, h => by simp [takeN] at h; simp [← h]
  | n + 1, [], q, h => by simp [takeN] at h
  | n + 1, x :: r, q, h => by
    simp only [takeN] at h
    split at h
    · rename_i q' hq
      obtain ⟨h1, h2⟩ := takeN_eq hq
      cases h
      exact ⟨by simp [h1], by simp; omega⟩
    · cases h
theorem cutN_eq {n off : Nat} {l q : List AV} (h : cutN n off l = some q) : q = (l.drop off).take n ∧ off + n ≤ l.length ∨ (n = 0 ∧ q = []) := by
  obtain ⟨h1, h2⟩ := takeN_eq h
  by_cases h0 : n = 0
  · subst h0; exact .inr ⟨rfl, by simp [h1]⟩
  · refine .inl ⟨h1, ?_⟩
    simp only [List.length_drop] at h2
    omega
theorem cutN_len {n off : Nat} {l q : List AV} (h : cutN n off l = some q) : q.length = n := by
  obtain ⟨h1, h2⟩ := takeN_eq h
  rw [h1, List.length_take, Nat.min_eq_left h2]
theorem cutN_get {n off : Nat} {l q : List AV} (h : cutN n off l = some q) (i : Nat) (hi : i < n) : q[i]? = l[off + i]? := by
  obtain ⟨h1, h2⟩ := takeN_eq h
  simp [h1, hi]

theorem overwrite_len : ∀ {l : List AV} {k : Nat} {new q : List AV}, overwrite l k new = some q → q.length = l.length ∧ k + new.length ≤ l.length
  | l, 0, [], q, h => by cases l <;> (simp [overwrite] at h; simp [← h])
  | [], 0, _ :: _, q, h => by simp [overwrite] at h
  | y :: l', 0, x :: r, q, h => by
    simp only [overwrite] at h
    split at h
    · rename_i q' hq
      have := overwrite_len hq
      cases h; exact ⟨by simp [this.1], by simp only [List.length_cons]; omega⟩
    · cases h
  | [], k + 1, new, q, h => by simp [overwrite] at h
  | y :: l, k + 1, new, q, h => by
    simp only [overwrite] at h
    split at h
    · rename_i q' hq
      have := overwrite_len hq
      cases h; exact ⟨by simp [this.1], by simp only [List.length_cons]; omega⟩
    · cases h
theorem overwrite_get : ∀ {l : List AV} {k : Nat} {new q : List AV}, overwrite l k new = some q → ∀ i, q[i]? = if k ≤ i ∧ i < k + new.length then new[i - k]? else l[i]?
  | l, 0, [], q, h, i => by
    have : q = l := by cases l <;> (simp [overwrite] at h; simp [h])
    subst this
    simp
  | [], 0, _ :: _, q, h, i => by simp [overwrite] at h
  | y :: l', 0, x :: r, q, h, i => by
    simp only [overwrite] at h
    split at h
    · rename_i q' hq
      have ih := overwrite_get hq
      cases h
      cases i with
      | zero => simp
      | succ i => simp [ih i]
    · cases h
  | [], k + 1, new, q, h, i => by simp [overwrite] at h
  | y :: l, k + 1, new, q, h, i => by
    simp only [overwrite] at h
    split at h
    · rename_i q' hq
      have ih := overwrite_get hq
      cases h
      cases i with
      | zero => simp
      | succ i =>
        simp only [List.getElem?_cons_succ, ih i]
        by_cases hc : k ≤ i ∧ i < k + new.length
        · rw [if_pos hc, if_pos (by omega)]; congr 1; omega
        · rw [if_neg hc, if_neg (by omega)]
    · cases h
end
end Go.Am
