/- unsafe.String, on both sides. -/
import Derived.Test.YtaiddjgpnpbckaaGreatDoorAmOp9
import Derived.Lib.UnsafeStr
set_option autoImplicit false
namespace Go.Am

theorem freeze_heap_ne (w : World) (a : Addr) (n k : Nat) (h : k ≠ a.block) : (w.freeze a n).heap[k]? = w.heap[k]? := by
  unfold World.freeze
  split
  · rfl
  · simp only [Array.getElem?_modify]; rw [if_neg (by omega)]
theorem freeze_heap (w : World) (a : Addr) (n : Nat) {c : Array Value} {ty : TypeId} {fz : Nat × Nat} (h : w.heap[a.block]? = some (.cells c ty fz)) : ∃ fz', (w.freeze a n).heap[a.block]? = some (.cells c ty fz') := by
  unfold World.freeze
  split
  · exact ⟨fz, h⟩
  · simp only [Array.getElem?_modify, if_pos, h]; exact ⟨_, rfl⟩
theorem freeze_size (w : World) (a : Addr) (n : Nat) : (w.freeze a n).heap.size = w.heap.size := by unfold World.freeze; split <;> simp

/-- A block in which no row is valid is closed. -/
theorem Rel.freeze {E : Env} {s : St} {w : World} (h : Rel E s w) {a : Addr} (n : Nat) {c : Array Value} {ty : TypeId} {fz : Nat × Nat} (hb : w.heap[a.block]? = some (.cells c ty fz))
    (hm : ∃ r base, E.loc r = some (a.block, base)) (hv : ∀ q o base, s.get q = some (.row o) → E.loc q = some (a.block, base) → valid s o = false) : Rel E s (w.freeze a n) where
  wf := h.wf
  lt r b base e := by rw [freeze_size]; exact h.lt r b base e
  obj := h.obj
  z b o v e := by
    obtain ⟨r, base, hr⟩ := hm
    have hne : b ≠ a.block := fun e2 => by subst e2; exact h.zap _ o v r base e hr
    exact (World.cell?_of_block (freeze_heap_ne w a n b hne)).trans (h.z b o v e)
  zap := h.zap
  row r o b base e el := by
    obtain ⟨c2, ty2, fz2, g1, g2, g3, g4⟩ := h.row r o b base e el
    by_cases hne : b = a.block
    · subst hne
      rw [hb] at g1; cases g1
      obtain ⟨fz', hf⟩ := freeze_heap w a n hb
      exact ⟨c, ty, fz', hf, g2, g3, fun hv2 => by rw [hv r o base e el] at hv2; cases hv2⟩
    · exact ⟨c2, ty2, fz2, by rw [freeze_heap_ne w a n b hne]; exact g1, g2, g3, g4⟩
  mapo r es b base e el := by
    obtain ⟨ents, clock, g1, g2⟩ := h.mapo r es b base e el
    have hne : b ≠ a.block := fun e2 => by subst e2; rw [hb] at g1; cases g1
    exact ⟨ents, clock, by rw [freeze_heap_ne w a n b hne]; exact g1, g2⟩
  iter := h.iter
  coh := h.coh
  b0 := h.b0
  hid n' d b e eb w1 hw := h.hid n' d b e eb w1 fun k hk => (hw k hk).trans (freeze_heap_ne w a n k fun e2 => by
    obtain ⟨r, base, hr⟩ := hm
    exact (h.own n' k hk).2.1 r base (by rw [e2]; exact hr))
  own := by rw [freeze_size]; exact h.own
  hlt := h.hlt

theorem retire_alike {s s' : St} {o : Row} (hw : Wf s) {r : Nat} (hr : s.get r = some (.row o)) (h : retire s o = some s') :
    Alike s s' ∧ (∀ q o2, s'.get q = some (.row o2) → o2.root = o.root → valid s' o2 = false) ∧
      (∀ q o2, s'.get q = some (.row o2) → o2.root ≠ o.root → s.get q = some (.row o2) ∧ valid s o2 = valid s' o2) ∧ (∀ q, q ≠ o.root → s'.get q = s.get q) := by
  obtain ⟨q0, hq0, hroot0, _, _⟩ := hw.root r o hr
  unfold retire at h
  rw [hq0] at h
  simp only [Option.some.injEq] at h
  subst h
  have hget : ∀ q, q ≠ o.root → (s.set o.root (.row { q0 with solo := false, fep := q0.fep + 1 })).get q = s.get q := fun q hq => St.get_set_ne _ _ (Ne.symm hq)
  have hself := St.get_set_same s o.root (.row { q0 with solo := false, fep := q0.fep + 1 })
  have hrow : ∀ q o2, (s.set o.root (.row { q0 with solo := false, fep := q0.fep + 1 })).get q = some (.row o2) → ∃ o3, s.get q = some (.row o3) ∧ o2.root = o3.root ∧ o2.pos = o3.pos ∧ o2.vals = o3.vals ∧ o2.ep = o3.ep ∧ o2.ty = o3.ty ∧ (q ≠ o.root → o2 = o3) ∧ (q = o.root → o2.solo = false) := by
    intro q o2 e
    by_cases hq : q = o.root
    · subst hq
      rw [hself] at e; cases e
      exact ⟨q0, hq0, rfl, rfl, rfl, rfl, rfl, fun h => absurd rfl h, fun _ => rfl⟩
    · rw [hget q hq] at e
      exact ⟨o2, e, rfl, rfl, rfl, rfl, rfl, fun _ => rfl, fun h => absurd h hq⟩
  have hsolo : ∀ q o2, (s.set o.root (.row { q0 with solo := false, fep := q0.fep + 1 })).get q = some (.row o2) → o2.root = o.root → o2.solo = false := by
    intro q o2 e er
    obtain ⟨o3, e3, a1, _, _, _, _, a6, a7⟩ := hrow q o2 e
    by_cases hq : q = o.root
    · exact a7 hq
    · have := a6 hq
      subst this
      cases hs : o2.solo with
      | false => rfl
      | true => exact absurd ((hw.solo q o2 e3 hs).1.symm.trans er) hq
  have hinv : ∀ q o2, (s.set o.root (.row { q0 with solo := false, fep := q0.fep + 1 })).get q = some (.row o2) → o2.root = o.root → valid (s.set o.root (.row { q0 with solo := false, fep := q0.fep + 1 })) o2 = false := by
    intro q o2 e er
    obtain ⟨o3, e3, a1, _, _, a4, _, _, _⟩ := hrow q o2 e
    rw [valid_multi (hsolo q o2 e er) (by rw [er]; exact hself)]
    obtain ⟨q2, b1, _, b3, _⟩ := hw.root q o3 e3
    rw [a1.symm.trans er, hq0] at b1; cases b1
    exact beq_false_of_ne (by show o2.ep ≠ q0.fep + 1; omega)
  have hout : ∀ q o2, (s.set o.root (.row { q0 with solo := false, fep := q0.fep + 1 })).get q = some (.row o2) → o2.root ≠ o.root → s.get q = some (.row o2) ∧ valid s o2 = valid (s.set o.root (.row { q0 with solo := false, fep := q0.fep + 1 })) o2 := by
    intro q o2 e er
    have hq : q ≠ o.root := fun hq => by
      obtain ⟨o3, e3, a1, _⟩ := hrow q o2 e
      subst hq
      rw [hq0] at e3; cases e3
      exact er (a1.trans hroot0)
    rw [hget q hq] at e
    exact ⟨e, (valid_congr (hget _ er)).symm⟩
  refine ⟨⟨rfl, ⟨?_, ?_, ?_⟩, ?_, ?_, ?_, ?_⟩, hinv, hout, hget⟩
  · intro q hq
    have hlt := hw.lt hq0
    have hq : s.next ≤ q := hq
    rw [hget q (by omega)]
    exact hw.fresh q hq
  · intro q o2 e
    obtain ⟨o3, e3, a1, a2, a3, a4, _, _, _⟩ := hrow q o2 e
    obtain ⟨q2, b1, b2, b3, b4⟩ := hw.root q o3 e3
    by_cases er : o2.root = o.root
    · have e1 := a1.symm.trans er
      rw [e1, hq0] at b1; cases b1
      rw [er]
      refine ⟨_, hself, hroot0, by show o2.ep ≤ q0.fep + 1; omega, fun hv => ?_⟩
      rw [hinv q o2 e er] at hv; cases hv
    · obtain ⟨e4, hv4⟩ := hout q o2 e er
      rw [e3] at e4; cases e4
      exact ⟨q2, by rw [hget _ er]; exact b1, b2, b3, fun hv => b4 (by rw [hv4]; exact hv)⟩
  · intro q o2 e hs
    have er : o2.root ≠ o.root := fun er => by rw [hsolo q o2 e er] at hs; cases hs
    obtain ⟨e4, _⟩ := hout q o2 e er
    obtain ⟨m1, m2⟩ := hw.solo q o2 e4 hs
    refine ⟨m1, fun r2 o4 e5 h5 => ?_⟩
    obtain ⟨o5, e6, a1, _⟩ := hrow r2 o4 e5
    exact m2 r2 o5 e6 (a1.symm.trans h5)
  · intro q o2 e
    obtain ⟨o3, e3, a1, a2, a3, _⟩ := hrow q o2 e
    exact ⟨o3, e3, a1, a2, by rw [a3]⟩
  · intro q o2 o4 e e4
    obtain ⟨o3, e3, _, _, _, _, a5, _⟩ := hrow q o2 e
    rw [e3] at e4; cases e4
    exact a5
  · intro q x hx e
    by_cases hq : q = o.root
    · subst hq; rw [hself] at e; cases e; exact absurd rfl (hx _)
    · rw [hget q hq] at e; exact e
  · intro q x e
    by_cases hq : q = o.root
    · subst hq; exact ⟨_, hself⟩
    · exact ⟨x, by rw [hget q hq]; exact e⟩

/-- The bytes of a row are closed. -/
theorem Step.closed {E : Env} {s s' : St} {w : World} (h : Rel E s w) {r : Nat} {o : Row} (ho : rowAt s r = some o) (hs : retire s o = some s') {b base : Nat} (hl : E.loc r = some (b, base)) (off n : Nat) :
    Step E s w E s' (w.freeze ⟨b, off, none⟩ n) := by
  obtain ⟨ho1, ho2⟩ := rowAt_eq ho
  obtain ⟨c, ty, fz, g1, g2, g3, g4⟩ := h.row r o b base ho1 hl
  obtain ⟨⟨hz, hty⟩, _⟩ := g4 ho2
  subst hz
  obtain ⟨hal, hinv, hout, hget⟩ := retire_alike h.wf ho1 hs
  have hfam : ∀ q o2 base2, s'.get q = some (.row o2) → E.loc q = some (b, base2) → o2.root = o.root := by
    intro q o2 base2 e el
    obtain ⟨o3, e3, a1, _⟩ := hal.row q o2 e
    rcases h.coh q r b base2 base el hl with h1 | ⟨o1, o4, m1, m2, m3, _⟩
    · subst h1; rw [ho1] at e3; cases e3; exact a1
    · rw [e3] at m1; cases m1
      rw [ho1] at m2; cases m2
      exact a1.trans m3
  have hrel : Rel E s' w := by
    have := h.block hal g1 ⟨r, base, hl⟩ c rfl (fun q o2 base2 e el hv => by rw [hinv q o2 e (hfam q o2 base2 e el)] at hv; cases hv) (fun q o2' b2 base2 e el hne hv => by
      have er : o2'.root ≠ o.root := fun er => by rw [hinv q o2' e er] at hv; cases hv
      obtain ⟨e4, hv4⟩ := hout q o2' e er
      exact ⟨o2', e4, by rw [hv4]; exact hv, rfl⟩)
    rwa [setRow_same w b c ty (0, 0) g1] at this
  have hrel2 := hrel.freeze (a := ⟨b, off, none⟩) n g1 ⟨r, base, hl⟩ (fun q o2 base2 e el => hinv q o2 e (hfam q o2 base2 e el))
  refine ⟨.refl E, fun _ _ => rfl, fun q b2 base2 e => .inr ⟨q, base2, e⟩, hrel2, fun q hq hn hso _ => ?_, by rw [hal.next]; exact Nat.le_refl _, fun b2 hb2 hn _ => freeze_heap_ne w _ n b2 (fun e => hn r base (by rw [e]; exact hl)), ?_, ?_, ?_, by rw [freeze_size]; exact Nat.le_refl _, fun _ _ e => .inl e, fun n d e => ⟨d, hal.hid e⟩⟩
  · refine hget q fun e => ?_
    obtain ⟨q0, hq0, m1, _⟩ := h.wf.root r o ho1
    have := hso q0 (by rw [e]; exact hq0)
    obtain ⟨_, m2⟩ := h.wf.solo o.root q0 hq0 this
    have : r = o.root := m2 r o ho1 rfl
    rw [e, ← this, hl] at hn; cases hn
  all_goals unfold World.freeze; split <;> rfl

section
variable {P : Program} {G : Glob} {E : Env} {s : St} {w : World} {t : T} {a : Act} {o : Oper}

theorem liesAt_bytes_off {e : TypeId} (hc : P.cellsOf e = 1) (count off n : Nat) (hn : off + n ≤ count) : liesAt P P.depth e count off e n = true := by
  have hd : P.depth = (2 * (P.types.size + Made.depth) + 1) + 1 := rfl
  rw [hd]
  simp only [liesAt, Bool.or_eq_true]
  left
  rw [hd]
  simp [Go.rowAt, hc, hn, sameLayout, Nat.mod_one]

theorem run_unsafeString_off (pt it ty e : TypeId) (hp : P.underlying pt = some (.pointer e)) (hc : P.cellsOf e = 1) (g off cells : Nat) (hsh : w.shape? g = some (e, cells)) (l : List UInt8) (h0 : l ≠ []) (hn : off + l.length ≤ cells) (h63 : l.length ≤ 9223372036854775807)
    (hcell : ∀ j x, l[j]? = some x → w.cell? ((⟨g, off, none⟩ : Addr).add j) = some (.int .u8 x.toNat)) :
    (Builtin.unsafeString_ #[pt, it] ty #[.pointer (some ⟨g, off, none⟩), .int .i64 l.length]).run P w = .ok (.string ⟨l.toArray⟩) (w.freeze ⟨g, off, none⟩ l.length) := by
  have hl : l.length ≠ 0 := by simpa using h0
  have hlb := Lib.run_loadBytes (P := P) w l ⟨g, off, none⟩ .empty hcell
  have hlies := liesAt_bytes_off (P := P) hc (cells / P.cellsOf e) off l.length (by rw [hc]; simpa using hn)
  have h63' : ¬ (9223372036854775807 : Int) < (l.length : Int) := by omega
  have hdef : Builtin.unsafeString_ #[pt, it] ty #[.pointer (some ⟨g, off, none⟩), .int .i64 l.length] =
      (do
        let n ← asInt (.int .i64 l.length)
        if n < 0 then runtimePanic (.error "unsafe.String: len out of range")
        if n > IntKind.i64.max then unsupported (.unsafePointer "String: a length above the largest int")
        if n = 0 then pure (.string .empty)
        else if ← variablesAt ⟨g, off, none⟩ (← elemOf pt) n.toNat then do
          let s ← loadBytes ⟨g, off, none⟩ .empty n.toNat
          freeze ⟨g, off, none⟩ n.toNat
          pure (.string s)
        else unsupported (.unsafePointer "String: not so many bytes at ptr")) := rfl
  rw [hdef]
  have hmax : IntKind.i64.max = 9223372036854775807 := rfl
  have hneg : ¬ (l.length : Int) < 0 := by omega
  simp [asInt, asIntOf, hmax, h63', hneg, hl, variablesAt, hsh, elemOf, run_underlying hp, hlies, hlb]

theorem unsafeStringC_ok (h : Rel E s w) (hG : GlobOk E G) (ht : TR E t a) {x n : Operand} {pt it : TypeId} (ho : o.op = .call { callee := .builtin .unsafeString, args := #[x, n], argTypes := #[pt, it] }) :
    OpOk P E s w o a (unsafeStringC P pt (evC G x) (evC G n) t s) := by
  have hx := evC_ok hG ht x
  have hn := evC_ok hG ht n
  generalize hv : a.eval x = v at hx
  generalize hm : a.eval n = m at hn
  suffices key : ∀ F, unsafeStringC P pt (evC G x) (evC G n) = F → OpOk P E s w o a (F t s) from key _ rfl
  intro F hF
  unfold unsafeStringC at hF
  split at hF
  rotate_left
  · subst hF; trivial
  rename_i e hp
  split at hF
  rotate_left
  · subst hF; trivial
  rename_i hsz
  subst hF
  simp only
  split
  · rename_i e1 e2
    rw [e1] at hn; rw [e2] at hx
    cases hn; cases hx
    exact .ofVal h (v := .string .empty) (by simp [execOp, ho, resolve, invoke, builtin, hv, hm, Lib.run_unsafeString_none]) (.str .empty)
  · rename_i r off e1 e2
    rw [e1] at hn; rw [e2] at hx
    cases hn; cases hx
    exact .ofVal h (v := .string .empty) (by simp [execOp, ho, resolve, invoke, builtin, hv, hm, Lib.run_unsafeString_none]) (.str .empty)
  · rename_i k r off e1 e2
    rw [e1] at hn; rw [e2] at hx
    cases hn
    split
    · rename_i q hq
      rcases Bool.eq_false_or_eq_true (q.ty.beq e && Nat.ble (k + 1) 9223372036854775807) with hb | hb
      · rw [cond_of_true hb]
        simp only [Bool.and_eq_true] at hb
        have hty := Nat.eq_of_beq_eq_true hb.1
        have h63 := Nat.le_of_ble_eq_true hb.2
        split
        · rename_i cs hcs
          split
          · rename_i l hl
            split
            · rename_i s' hs'
              cases hx with
              | ptr off hloc =>
                rename_i b base
                obtain ⟨q1, q2⟩ := rowAt_eq hq
                obtain ⟨c, ty, fz, g1, g2, g3, g4⟩ := h.row r q b base q1 hloc
                obtain ⟨⟨g5, g6⟩, vs, k1, k2⟩ := g4 q2
                obtain ⟨iu, i1, i2⟩ := sizeT_info hsz
                have hcells : P.cellsOf e = 1 := by simp [Program.cellsOf, i1, i2]
                obtain ⟨c1, c2⟩ := takeN_eq hcs
                have hlen : cs.length = k + 1 := cutN_len hcs
                have hvs : VRL E cs ((vs.drop off).take (k + 1)) := by rw [c1]; exact (k1.drop off).take _
                obtain ⟨hby, hlt⟩ := bytesOf_ok hl hvs
                have hll : l.length = k + 1 := by
                  have := congrArg List.length hby
                  rw [← hvs.length, hlen, List.length_map] at this
                  exact this.symm
                have hmap : (l.map UInt8.ofNat).length = k + 1 := by simpa using hll
                have hfit : base + off + (k + 1) ≤ c.size := by
                  simp only [List.length_drop] at c2
                  omega
                have hrun := run_unsafeString_off (P := P) (w := w) pt it o.type e hp hcells b (base + off) c.size (by simp [World.shape?, g1, g6, hty]) (l.map UInt8.ofNat) (fun e3 => by rw [e3] at hmap; simp at hmap) (by rw [hmap]; exact hfit) (by rw [hmap]; exact h63) (by
                  intro j y hy
                  rw [Addr.add_lit]
                  simp only [List.getElem?_map, Option.map_eq_some_iff] at hy
                  obtain ⟨nn, hnn, rfl⟩ := hy
                  have hj : ((vs.drop off).take (k + 1))[j]? = some (.int .u8 (nn : Int)) := by rw [hby]; simp [hnn]
                  rw [List.getElem?_take] at hj
                  split at hj
                  · rw [List.getElem?_drop] at hj
                    have := k2 _ _ hj
                    have hn2 := hlt nn (List.mem_of_getElem? hnn)
                    rw [World.cell?, g1]
                    simp only [Nat.add_assoc]
                    rw [this]
                    simp [UInt8.toNat_ofNat', Nat.mod_eq_of_lt hn2]
                  · cases hj)
                rw [hmap] at hrun
                have hm' : a.eval n = .int .i64 ((k + 1 : Nat) : Int) := hm
                obtain ⟨i, hi⟩ : ∃ i : Int, i = ((k + 1 : Nat) : Int) := ⟨_, rfl⟩
                rw [← hi] at hrun hm'
                refine .inl ⟨.string ⟨(l.map UInt8.ofNat).toArray⟩, _, E, ?_, Step.closed h hq hs' hloc (base + off) (k + 1), ?_⟩
                · simp [execOp, ho, resolve, invoke, builtin, hv, hm', hrun]
                · have : VR E (.str (((⟨(l.map UInt8.ofNat).toArray⟩ : ByteArray)).data.toList.map (·.toNat))) (.string ⟨(l.map UInt8.ofNat).toArray⟩) := .str _
                  have e4 : ((⟨(l.map UInt8.ofNat).toArray⟩ : ByteArray)).data.toList.map (·.toNat) = l := by
                    show (l.map UInt8.ofNat).map (·.toNat) = l
                    rw [List.map_map]
                    refine (List.map_congr_left fun y hy => ?_).trans (List.map_id l)
                    simp [UInt8.toNat_ofNat', Nat.mod_eq_of_lt (hlt y hy)]
                  rw [e4] at this
                  exact this
            · trivial
          · trivial
        · trivial
      · rw [cond_of_false hb]; trivial
    · trivial
  · trivial
end
end Go.Am
