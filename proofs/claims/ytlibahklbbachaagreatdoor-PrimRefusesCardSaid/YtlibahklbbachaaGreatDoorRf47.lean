import Derived.Test.YtlibahklbbachaaGreatDoorRf22
set_option autoImplicit false
set_option maxRecDepth 100000
set_option linter.unusedSimpArgs false
set_option linter.unusedVariables false
namespace Go.Am
open Go
def insS (s : St) (r : Nat) (o : Row) (new : List AV) : St :=
 (s.set r (.row { o with ext := o.ext + (o.pos + new.length), fep := o.fep + 1, solo := false })).push (.row { vals := new, root := r, pos := o.pos, ep := o.fep + 1, fep := 0, ext := 0, solo := false, ty := o.ty })
section
variable {E : Env} {s : St} {w : World} {r : Nat} {o : Row}
theorem ins_meta (hw : Wf s) (hr : s.get r = some (.row o)) (hs : o.solo = true) (new : List AV) {s1 : St} (h1 : s1 = s.set r (.row { o with ext := o.ext + (o.pos + new.length), fep := o.fep + 1, solo := false })) :
  Alike s s1 ∧ (∀ q o2', s1.get q = some (.row o2') → valid s1 o2' = true → q ≠ r ∧ o2'.root ≠ r ∧ s.get q = some (.row o2') ∧ valid s o2' = true) ∧ Wf (insS s r o new) ∧ (∀ q, q ≠ r → s1.get q = s.get q) := by
 subst h1
 obtain ⟨hroot, huniq⟩ := hw.solo r o hr hs
 have hv : valid s o = true := by unfold valid; rw [hs]; rfl
 have hq0 : s.get o.root = some (.row o) := by rw [hroot]; exact hr
 have hself : ∃ o1, (s.set r (.row { o with ext := o.ext + (o.pos + new.length), fep := o.fep + 1, solo := false })).get r = some (.row o1) ∧ o1.root = o.root ∧ o1.pos = o.pos ∧ o1.vals = o.vals ∧ o1.solo = false ∧ (o1.ep = o.fep ∨ o1.ep = o.ep) ∧ o1.ty = o.ty :=
  ⟨_, St.get_set_same _ _ _, rfl, rfl, rfl, rfl, .inr rfl, rfl⟩
 have hrt : ∃ q1, (s.set r (.row { o with ext := o.ext + (o.pos + new.length), fep := o.fep + 1, solo := false })).get o.root = some (.row q1) ∧ q1.fep = o.fep + 1 ∧ q1.ext = o.ext + (o.pos + new.length) ∧ q1.root = o.root ∧ q1.pos = o.pos ∧ q1.vals = o.vals ∧ (o.root ≠ r → q1.ep = o.ep ∧ q1.solo = o.solo) ∧ q1.ty = o.ty :=
  ⟨{ o with ext := o.ext + (o.pos + new.length), fep := o.fep + 1, solo := false }, (congrArg (St.get _) hroot).trans (St.get_set_same _ _ _), rfl, rfl, rfl, rfl, rfl, fun h => absurd hroot h, rfl⟩
 have hget : ∀ q, q ≠ r → (s.set r (.row { o with ext := o.ext + (o.pos + new.length), fep := o.fep + 1, solo := false })).get q = s.get q := fun q hq => St.get_set_ne _ _ (fun e => hq e.symm)
 obtain ⟨ha, hval, hfs⟩ := append_meta (s1 := s.set r (.row { o with ext := o.ext + (o.pos + new.length), fep := o.fep + 1, solo := false })) hw hr hv hq0 (e := 0) (f := o.fep + 1) (ext := o.ext + (o.pos + new.length)) (.inr rfl) (by omega) rfl hself hrt (fun q h _ => hget q h)
 refine ⟨ha, fun q o2' e hv2 => ?_, ?_, hget⟩
 ·have hqr : q ≠ r := fun e2 => by
   subst e2
   rw [St.get_set_same] at e
   cases e
   unfold valid at hv2
   simp only [cond_false] at hv2
   rw [hroot, St.get_set_same] at hv2
   simp only at hv2
   have h2 := Nat.eq_of_beq_eq_true hv2
   obtain ⟨q2, g1, _, g3, _⟩ := hw.root q o hr
   rw [hq0] at g1; cases g1
   omega
  have e' : s.get q = some (.row o2') := by rw [← hget q hqr]; exact e
  have hne : o2'.root ≠ r := fun e2 => hqr (huniq q o2' e' e2)
  refine ⟨hqr, hne, e', ?_⟩
  unfold valid at hv2 ⊢
  rw [hget _ hne] at hv2
  exact hv2
 ·unfold insS
  obtain ⟨q1, z1, z2, z3, z4, _⟩ := hrt
  exact ha.wf.push_family z1 z4 (fun q o2 e1 e2 => (hfs q o2 e1 e2).1) (by show r = o.root; exact hroot.symm) z2.symm (by simp only; omega) rfl
theorem ins_hid (hr : s.get r = some (.row o)) (hw : Wf s) (new : List AV) {n : Nat} {d : Hid} (e : s.get n = some (.hid d)) : (insS s r o new).get n = some (.hid d) := by
 have hn : n ≠ r := fun e2 => by subst e2; rw [hr] at e; cases e
 unfold insS
 rw [get_push_old (by show n < s.next; exact hw.lt e), St.get_set_ne _ _ (fun e2 => hn e2.symm)]
 exact e
theorem ins_un {b base : Nat} (hl : E.loc r = some (b, base)) (new : List AV) {q : Nat} (hq : q < s.next) (hn : E.loc q = none) : (insS s r o new).get q = s.get q := by
 have hqr : q ≠ r := fun e => by subst e; rw [hl] at hn; cases hn
 unfold insS
 rw [get_push_old (by show q < s.next; exact hq), St.get_set_ne _ _ (fun e2 => hqr e2.symm)]
theorem Step.insIn (h : Rel E s w) (hr : s.get r = some (.row o)) (hs : o.solo = true) {b base : Nat} (hl : E.loc r = some (b, base)) {c : Array Value} {cty : TypeId} (hb : w.heap[b]? = some (.cells c cty (0, 0))) (hty : cty = o.ty)
  {new : List AV} {vs : List Value} (hv : VRL E new vs) (c' : Array Value) (hsz : c'.size = c.size) (hfit : base + new.length ≤ c.size) (hc : ∀ (i : Nat) (v : Value), vs[i]? = some v → c'[base + i]? = some v) :
  Step E s w (E.add s.next b base (E.bsz b)) (insS s r o new) (w.setRow b c') := by
 obtain ⟨ha, hval, hwf, hget⟩ := ins_meta h.wf hr hs new rfl
 have hrel1 := h.block ha hb ⟨r, base, hl⟩ c' hsz (fun q o2 base2 eq el hv2 => by
   obtain ⟨n1, n2, e3, _⟩ := hval q o2 eq hv2
   exfalso
   rcases h.coh q r b base2 base el hl with h3 | ⟨p1, p2, m1, m2, m3, _⟩
   ·exact n1 h3
   ·rw [e3] at m1; cases m1
    rw [hr] at m2; cases m2
    exact n2 (m3.trans (h.wf.solo r _ hr hs).1)) (fun q o2' b2 base2 eq el _ hv2 => by
   obtain ⟨_, _, e3, v3⟩ := hval q o2' eq hv2
   exact ⟨o2', e3, v3, rfl⟩)
 have hrel2 := hrel1.push _ hwf
 have hb' : (w.setRow b c').heap[b]? = some (.cells c' cty (0, 0)) := setRow_heap w b c c' cty (0, 0) hb
 have hlt := h.wf.lt hr
 obtain ⟨hle, hrel3⟩ := hrel2.map_old (r := s.next) (r0 := r) (o0 := { o with ext := o.ext + (o.pos + new.length), fep := o.fep + 1, solo := false }) (b := b) (base := base) (base0 := base) get_push_new h.loc_fresh (by rw [get_push_old (by show r < s.next; exact hlt)]; exact St.get_set_same _ _ _) hl
  (by show o.root = r; exact (h.wf.solo r o hr hs).1) rfl hb' hty (by show r ≠ s.next; omega) (by rw [hsz]; exact hfit) (fun _ => ⟨vs, hv, hc⟩)
 refine ⟨hle, fun q hq => Env.add_ne (by omega), fun q b2 base2 e2 => ?_, hrel3, fun q hq hn _ _ => ins_un hl new hq hn, ?_, fun b2 hb2 hno _ => setRow_heap_ne w b b2 _ (fun e => by subst e; exact hno r base hl), rfl, rfl, rfl, by rw [setRow_size]; exact Nat.le_refl _, fun _ _ e => .inl e,
  fun n d e => ⟨d, ins_hid hr h.wf new e⟩, fun _ _ _ e => .inl e⟩
 ·rcases Env.add_loc e2 with ⟨_, h3⟩ | ⟨_, h3⟩
  ·cases h3; exact .inr ⟨r, base, hl⟩
  ·exact .inr ⟨q, base2, h3⟩
 ·show s.next ≤ s.next + 1; omega
theorem Step.insNew (h : Rel E s w) (hr : s.get r = some (.row o)) (hs : o.solo = true) {b base : Nat} (hl : E.loc r = some (b, base)) {new : List AV} {vs : List Value} (hv : VRL E new vs) (c' : Array Value) (hsz : new.length ≤ c'.size) (hc : ∀ (i : Nat) (v : Value), vs[i]? = some v → c'[i]? = some v) :
  Step E s w (E.add s.next w.heap.size 0 c'.size) (insS s r o new) (w.alloc (.cells c' o.ty)) := by
 obtain ⟨ha, hval, hwf, hget⟩ := ins_meta h.wf hr hs new rfl
 obtain ⟨c, cty, fz, g1, g2, g3, g4⟩ := h.row r o b base hr hl
 have hvo : valid s o = true := by unfold valid; rw [hs]; rfl
 obtain ⟨⟨hfz, _⟩, _⟩ := g4 hvo
 subst hfz
 have hrel1 : Rel E (s.set r (.row { o with ext := o.ext + (o.pos + new.length), fep := o.fep + 1, solo := false })) w := by
  have := h.block ha (b := b) (c := c) (ty := cty) g1 ⟨r, base, hl⟩ c rfl
   (fun q o2 base2 eq el hv2 => by
    obtain ⟨n1, n2, e3, v3⟩ := hval q o2 eq hv2
    obtain ⟨c2, ty2, fz2, m1, m2, m3, m4⟩ := h.row q o2 b base2 e3 el
    rw [g1] at m1; cases m1
    obtain ⟨⟨_, hty2⟩, us, u1, u2⟩ := m4 v3
    exact ⟨hty2, us, u1, u2⟩)
   (fun q o2' b2 base2 eq el _ hv2 => by
    obtain ⟨_, _, e3, v3⟩ := hval q o2' eq hv2
    exact ⟨o2', e3, v3, rfl⟩)
  rwa [setRow_same w b c cty (0, 0) g1] at this
 have hrel2 := hrel1.push _ hwf
 obtain ⟨hle, hrel3⟩ := hrel2.map_new (r := s.next) get_push_new h.loc_fresh (vs := vs) hv c' hc hsz
 refine ⟨hle, fun q hq => Env.add_ne (by omega), fun q b2 base2 e2 => ?_, hrel3, fun q hq hn _ _ => ins_un hl new hq hn, ?_, fun b2 hb2 hno _ => heap_alloc_old w _ b2 hb2, rfl, rfl, rfl, by simp, fun _ _ e => .inl e,
  fun n d e => ⟨d, ins_hid hr h.wf new e⟩, fun _ _ _ e => .inl e⟩
 ·rcases Env.add_loc e2 with ⟨_, h3⟩ | ⟨_, h3⟩
  ·cases h3; exact .inl (Nat.le_refl _)
  ·exact .inr ⟨q, base2, h3⟩
 ·show s.next ≤ s.next + 1; omega
end
end Go.Am
