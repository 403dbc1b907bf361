/- The operations, on both sides: conversions, maps, append, calls. -/
import Derived.Test.YtaiddjgpnpbckaaGreatDoorAmOp6
import Derived.Laws.BytesString
import Derived.MapKept
import Derived.Carry
set_option autoImplicit false
namespace Go.Am

def Env.addZ (E : Env) (b : Nat) (c : Array Value) : Env := { E with z := fun b' o => if b' = b then c[o]? else E.z b' o }

/-- A new block whose cells stay. -/
theorem Step.frozen {E : Env} {s : St} {w w' : World} (h : Rel E s w) (c : Array Value) (hsz : w.heap.size ≤ w'.heap.size) (hold : ∀ b, b < w.heap.size → w'.heap[b]? = w.heap[b]?)
    (hc : ∀ (i : Nat) (v : Value), c[i]? = some v → w'.cell? ⟨w.heap.size, i, none⟩ = some v) (h1 : w'.os = w.os) (h2 : w'.tape = w.tape) (h3 : w'.output = w.output) :
    Step E s w (E.addZ w.heap.size c) s w' := by
  have hle : E.le (E.addZ w.heap.size c) := by
    refine ⟨fun _ _ e => e, fun b o v e => ?_, fun _ _ _ _ => rfl, fun _ _ e => e, rfl⟩
    simp only [Env.addZ]
    by_cases hb : b = w.heap.size
    · subst hb
      have := World.block_lt_of_cell? w _ (h.z _ o v e)
      simp at this
    · rw [if_neg hb]; exact e
  refine ⟨hle, fun _ _ => rfl, fun r _ base e => .inr ⟨r, base, e⟩, ?_, fun _ _ _ _ _ => rfl, Nat.le_refl _, fun b hb _ _ => hold b hb, h1, h2, h3, hsz, fun _ _ e => .inl e, fun _ d e => ⟨d, e⟩⟩
  refine ⟨h.wf, fun r b base e => ⟨(h.lt r b base e).1, Nat.lt_of_lt_of_le (h.lt r b base e).2 hsz⟩, h.obj, ?_, ?_, ?_, ?_, h.iter, h.coh, h.b0, fun n d b e eb w1 hw => h.hid n d b e eb w1 fun k hk => (hw k hk).trans (hold k (h.own n k hk).1), fun n k hk => ?_, h.hlt⟩
  rotate_right
  · obtain ⟨o1, o2, o3, o4⟩ := h.own n k hk
    refine ⟨Nat.lt_of_lt_of_le o1 hsz, o2, fun o => ?_, o4⟩
    simp only [Env.addZ]
    rw [if_neg (by omega)]; exact o3 o
  · intro b i v e
    simp only [Env.addZ] at e
    by_cases hb : b = w.heap.size
    · subst hb; rw [if_pos rfl] at e; exact hc i v e
    · rw [if_neg hb] at e
      have h4 := h.z b i v e
      exact (World.cell?_of_block (hold b (World.block_lt_of_cell? w _ h4))).trans h4
  · intro b i v r base e e2
    have e2' : E.loc r = some (b, base) := e2
    simp only [Env.addZ] at e
    by_cases hb : b = w.heap.size
    · subst hb; have := (h.lt r _ base e2').2; omega
    · rw [if_neg hb] at e; exact h.zap b i v r base e e2'
  · intro r o b base e el
    obtain ⟨c', ty', fz, g1, g2, g3, g4⟩ := h.row r o b base e el
    refine ⟨c', ty', fz, by rw [hold b (h.lt r b base el).2]; exact g1, g2, g3, fun hv' => ?_⟩
    obtain ⟨hz, vs', k1, k2⟩ := g4 hv'
    exact ⟨hz, vs', VRL.mono hle k1, k2⟩
  · intro r es b base e el
    obtain ⟨ents, clock, g1, g2, g3⟩ := h.mapo r es b base e el
    exact ⟨ents, clock, by rw [hold b (h.lt r b base el).2]; exact g1, VRL.mono hle g2, VRL.mono hle g3⟩

section
variable {P : Program} {G : Glob} {E : Env} {s : St} {w : World} {t : T} {a : Act} {o : Oper}

theorem bytesA_ok (l : List UInt8) : VRL E (bytesA (l.map (·.toNat))) (l.map fun b => Value.int .u8 b.toNat) := by
  induction l with
  | nil => exact .nil
  | cons b l ih => exact .cons (.int _ _) ih

theorem heap_freeze (w : World) (x : Addr) (n b : Nat) (h : b ≠ x.block) : (w.freeze x n).heap[b]? = w.heap[b]? := by
  unfold World.freeze
  split
  · rfl
  · simp only [Array.getElem?_modify]; rw [if_neg (by omega)]
theorem size_freeze (w : World) (x : Addr) (n : Nat) : (w.freeze x n).heap.size = w.heap.size := by
  unfold World.freeze
  split
  · rfl
  · simp
theorem cell_freeze (w : World) (x : Addr) (n : Nat) (y : Addr) : (w.freeze x n).cell? y = w.cell? y := by
  unfold World.freeze
  split
  · rfl
  · simp only [World.cell?, Array.getElem?_modify]
    by_cases h : x.block = y.block
    · rw [if_pos h]
      cases hb : w.heap[y.block]? with
      | none => rfl
      | some o => cases o <;> rfl
    · rw [if_neg h]
theorem freeze_rest (w : World) (x : Addr) (n : Nat) : (w.freeze x n).os = w.os ∧ (w.freeze x n).tape = w.tape ∧ (w.freeze x n).output = w.output := by
  unfold World.freeze
  split <;> exact ⟨rfl, rfl, rfl⟩

theorem run_stringToBytes (e : TypeId) (bs : ByteArray) (w : World) :
    ∃ (c : Array Value) (cap : Nat) (w' : World), (Conv.stringToBytes e bs).run P w = .ok (.slice (some ⟨w.heap.size, 0, none⟩) bs.size cap) w' ∧ bs.size ≤ cap ∧
      c = (bs.data.map fun b => Value.int .u8 b.toNat) ∧ w.heap.size ≤ w'.heap.size ∧ (∀ b, b < w.heap.size → w'.heap[b]? = w.heap[b]?) ∧
      (∀ (i : Nat) (v : Value), c[i]? = some v → w'.cell? ⟨w.heap.size, i, none⟩ = some v) ∧ w'.os = w.os ∧ w'.tape = w.tape ∧ w'.output = w.output := by
  generalize hC : (bs.data.map fun b => Value.int .u8 b.toNat) ++ Array.replicate ((Question.appendCap bs.size 0 e).cut (w.tape w.drawn (Question.appendCap bs.size 0 e)) - bs.size) (Value.int IntKind.u8 0) = C
  have hnew : (w.drew.alloc (.cells C e)).heap[w.heap.size]? = some (.cells C e) := heap_alloc_new w.drew _
  have hsh : (w.drew.alloc (.cells C e)).shape? w.heap.size = some (e, C.size) := by
    simp only [World.shape?]
    rw [hnew]
  have hfr := freeze_rest (w.drew.alloc (.cells C e)) ⟨w.heap.size, C.size, none⟩ 1
  refine ⟨_, grownCap w bs.size 0 e, (w.drew.alloc (.cells C e)).freeze ⟨w.heap.size, C.size, none⟩ 1, ?_, grownCap_ge w _ _ _, rfl, ?_, ?_, ?_, hfr.1, hfr.2.1, hfr.2.2⟩
  · simp [Conv.stringToBytes, Question.forced, Go.newRow, markStringish, grownCap, hC, hsh]
  · rw [size_freeze]; simp
  · intro b hb
    rw [heap_freeze _ _ _ _ (by simp; omega)]
    exact heap_alloc_old w.drew _ b hb
  · intro i v hi
    rw [cell_freeze]
    simp only [World.cell?]
    rw [hnew]
    simp only [← hC]
    have hlt : i < (bs.data.map fun b => Value.int .u8 b.toNat).size := (Array.getElem?_eq_some_iff.1 hi).1
    simp only [Option.isSome_none, Bool.false_eq_true, if_false]
    rw [Array.getElem?_append_left hlt]
    exact hi

theorem bytesOf_ok : ∀ {cs : List AV} {l : List Nat}, bytesOf cs = some l → ∀ {vs : List Value}, VRL E cs vs →
    vs = (l.map fun (n : Nat) => Value.int .u8 (n : Int)) ∧ ∀ n ∈ l, n < 256
  | [], l, h, vs, hv => by simp [bytesOf] at h; subst h; cases hv; exact ⟨rfl, fun _ h => by simp at h⟩
  | .int .u8 (.ofNat n) :: cs, l, h, vs, hv => by
    simp only [bytesOf] at h
    rcases Bool.eq_false_or_eq_true (Nat.blt n 256) with hb | hb
    · rw [cond_of_true hb] at h
      split at h
      · rename_i q hq
        cases h
        cases hv with
        | cons h1 h2 =>
          cases h1
          obtain ⟨e1, e2⟩ := bytesOf_ok hq h2
          refine ⟨by rw [e1]; rfl, fun m hm => ?_⟩
          rcases List.mem_cons.1 hm with rfl | hm
          · exact Nat.le_of_ble_eq_true hb
          · exact e2 m hm
      · cases h
    · rw [cond_of_false hb] at h; cases h

theorem foldl_push (ns : List Nat) : ∀ (s : ByteArray), ((ns.map fun (n : Nat) => (n : Int)).foldl (fun r n => r.push (UInt8.ofNat n.toNat)) s).data.toList = s.data.toList ++ ns.map UInt8.ofNat := by
  induction ns with
  | nil => intro s; simp
  | cons n ns ih =>
    intro s
    simp only [List.map_cons, List.foldl_cons, ih]
    simp [ByteArray.push]

theorem toNat_ofNat_list : ∀ (l : List Nat), (∀ n ∈ l, n < 256) → (l.map UInt8.ofNat).map (·.toNat) = l
  | [], _ => rfl
  | n :: l, h => by
    have hn := h n (by simp)
    simp only [List.map_cons]
    rw [toNat_ofNat_list l (fun m hm => h m (by simp [hm]))]
    congr 1
    rw [UInt8.toNat_ofNat']
    exact Nat.mod_eq_of_lt hn

theorem VR.ofBytes {l : List Nat} {s : ByteArray} (h : s.data.toList.map (·.toNat) = l) : VR E (.str l) (.string s) := by subst h; exact .str s

/-- The cells of a slice's first elements. -/
theorem elems_ok (h : Rel E s w) {es m : Nat} {x : AV} {cs : List AV} (hc : elemsN es m x s = some cs) {v : Value} (hv : VR E x v) :
    (∃ (ad : Option Addr) (len cap : Nat) (vs : List Value), v = .slice ad len cap ∧ VRL E cs vs ∧ vs.length = m * es ∧
      (0 < vs.length → ∃ b off, ad = some ⟨b, off, none⟩ ∧ ∀ (i : Nat) (u : Value), vs[i]? = some u → w.cell? ⟨b, off + i, none⟩ = some u)) ∨
    (∃ bs : ByteArray, v = .string bs ∧ VRL E cs ((bs.data.toList.take m).map fun b => Value.int .u8 b.toNat)) := by
  cases hv with
  | lst hcs hle htt hn hcc hz =>
    simp only [elemsN] at hc
    obtain ⟨e1, e2⟩ := takeN_eq hc
    rename_i vs len cap tight nl ad
    have hl := hcs.length
    refine .inl ⟨ad, len, cap, vs.take (m * es), rfl, by rw [e1]; exact hcs.take _, by rw [List.length_take]; omega, fun hp => ?_⟩
    have hvs : vs ≠ [] := by rintro rfl; simp at hp
    obtain ⟨b, base, e3, e4⟩ := hz hvs
    exact ⟨b, base, e3, fun i u hu => h.z _ _ _ (e4 i u (take_at _ _ _ _ hu))⟩
  | sl hl hle htt hcc =>
    simp only [elemsN] at hc
    rename_i r b base off len es' cap tight ad
    rcases Bool.eq_false_or_eq_true (m.beq 0) with hb | hb
    · rw [cond_of_true hb] at hc
      cases hc
      have := Nat.eq_of_beq_eq_true hb
      subst this
      exact .inl ⟨ad, len, cap, [], rfl, .nil, by simp, fun hp => by simp at hp⟩
    · rw [cond_of_false hb] at hc
      rcases Bool.eq_false_or_eq_true (es.beq es' && Nat.ble m len) with hb2 | hb2
      · rw [cond_of_true hb2] at hc
        rw [Bool.and_eq_true] at hb2
        have hes := Nat.eq_of_beq_eq_true hb2.1
        have hml := Nat.le_of_ble_eq_true hb2.2
        subst hes
        obtain ⟨b', off', vs, e1, e2, e3, e4⟩ := h.cells hc (.ptr off hl)
        cases e1
        refine .inl ⟨ad, len, cap, vs, rfl, e2, by rw [← e2.length]; exact e3, fun hp => ?_⟩
        have hm0 : m ≠ 0 := fun e => by subst e; simp at hb
        exact ⟨b, base + off, (hcc (by omega)).1, e4⟩
      · rw [cond_of_false hb2] at hc; cases hc
  | str bs =>
    simp only [elemsN] at hc
    rcases Bool.eq_false_or_eq_true (es.beq 1) with hb | hb
    · rw [cond_of_true hb] at hc
      cases hc
      exact .inr ⟨bs, rfl, by rw [← List.map_take]; exact bytesA_ok _⟩
    · rw [cond_of_false hb] at hc; cases hc
  | _ => simp [elemsN] at hc

theorem convertC_ok (h : Rel E s w) (hG : GlobOk E G) (ht : TR E t a) {src dst : TypeId} {x : Operand} (ho : o.op = .convert src dst x) : OpOk P E s w o a (convertC P G o src dst (evC G x) t s) := by
  have hx := evC_ok hG ht x
  have hp : OpOk P E s w o a (plainC P G o t s) := plainC_ok h hG ht (by intro cs b; rw [ho]; simp)
  cases hu : P.underlying src with
  | none => simp only [convertC, hu]; exact hp
  | some d1 =>
    cases hd : P.underlying dst with
    | none => cases d1 <;> (simp only [convertC, hu, hd]; exact hp)
    | some d2 =>
      generalize hv : a.eval x = v at hx
      cases d1 with
      | string =>
        cases d2 with
        | slice e =>
          cases he : P.underlying e with
          | none => simp only [convertC, hu, hd, he]; trivial
          | some d3 =>
            cases d3 with
            | int k =>
              cases k with
              | u8 =>
                cases hs : sizeT P e with
                | none => simp only [convertC, hu, hd, he, hs]; trivial
                | some n =>
                  match n, hs with
                  | 0, hs => simp only [convertC, hu, hd, he, hs]; trivial
                  | n + 2, hs => simp only [convertC, hu, hd, he, hs]; trivial
                  | 1, hs =>
                    simp only [convertC, hu, hd, he, hs]
                    split
                    · rename_i l e1
                      rw [e1] at hx
                      cases hx with
                      | str bs =>
                        obtain ⟨c, cap, w', r1, r2, r3, r4, r5, r6, r7, r8, r9⟩ := run_stringToBytes (P := P) e bs w
                        refine .inl ⟨.slice (some ⟨w.heap.size, 0, none⟩) bs.size cap, w', _, ?_, Step.frozen h c r4 r5 r6 r7 r8 r9, ?_⟩
                        · simp [execOp, ho, hv, convert, run_underlying hu, run_underlying hd, run_underlying he, r1]
                        · have hlen : (bs.data.toList.map (·.toNat)).length = bs.size := by simp
                          rw [hlen]
                          refine .lst (vs := c.toList) ?_ r2 (fun e => by cases e) rfl (fun e => by cases e) (fun _ => ⟨w.heap.size, 0, rfl, fun i v hi => ?_⟩)
                          · rw [r3]; simp only [Array.toList_map]; exact bytesA_ok _
                          · simp only [Env.addZ, Nat.zero_add]
                            rw [if_pos trivial]
                            rwa [Array.getElem?_toList] at hi
                    · trivial
              | _ => simp only [convertC, hu, hd, he]; trivial
            | _ => simp only [convertC, hu, hd, he]; trivial
        | _ => simp only [convertC, hu, hd]; exact hp
      | slice e =>
        cases d2 with
        | string =>
          cases he : P.underlying e with
          | none => simp only [convertC, hu, hd, he]; trivial
          | some d3 =>
            cases d3 with
            | int k =>
              cases k with
              | u8 =>
                simp only [convertC, hu, hd, he]
                split
                · rename_i n hn
                  split
                  · trivial
                  · rename_i y hy hns
                    split
                    · rename_i cs hcs
                      split
                      · rename_i l hl
                        rcases elems_ok h hcs hx with ⟨ad, len, cap, vs, e1, e2, e3, e4⟩ | ⟨bs, e1, _⟩
                        · obtain ⟨b1, b2⟩ := bytesOf_ok hl e2
                          -- how many there are
                          have hlen : n = len := by
                            subst e1
                            generalize hg : evC G x t = g at hx hn
                            cases hx <;> simp [lenA] at hn <;> exact hn.symm
                          subst hlen
                          simp only [Nat.mul_one] at e3
                          have hfirst : (convert src dst v).run P w = .ok (.string ((l.map fun (n : Nat) => (n : Int)).foldl (fun r n => r.push (UInt8.ofNat n.toNat)) ByteArray.empty)) w := by
                            subst e1
                            cases ad with
                            | none =>
                              have : vs = [] := by
                                cases vs with
                                | nil => rfl
                                | cons z zs => obtain ⟨_, _, e5, _⟩ := e4 (by simp); cases e5
                              rw [this] at b1
                              have hl0 : l = [] := by cases l with | nil => rfl | cons => simp at b1
                              subst hl0
                              simp [convert, run_underlying hu, run_underlying hd, run_underlying he, Conv.bytesToString]
                            | some ad =>
                              have hload : (loadCells ad n).run P w = .ok ((l.map fun (n : Nat) => (n : Int)).map (Value.int .u8)).toArray w := by
                                have e6 : ((l.map fun (n : Nat) => (n : Int)).map (Value.int .u8)) = vs := by rw [b1]; simp
                                rw [e6, ← e3]
                                refine run_loadCells_list (P := P) (w := w) ad vs (fun j u hj => ?_)
                                have hp0 : 0 < vs.length := by cases vs with | nil => simp at hj | cons => simp
                                obtain ⟨b, off, e5, e7⟩ := e4 hp0
                                cases e5
                                rw [Addr.add_lit]; exact e7 j u hj
                              have := run_bytesToString (P := P) w ad n cap _ hload
                              simp [convert, run_underlying hu, run_underlying hd, run_underlying he, this]
                          refine .ofVal h (v := .string ((l.map fun (n : Nat) => (n : Int)).foldl (fun r n => r.push (UInt8.ofNat n.toNat)) ByteArray.empty)) ?_ (VR.ofBytes ?_)
                          · simp only [execOp, ho, hv, Sem.run_bind, hfirst, Result.andThen_ok]; rfl
                          · rw [foldl_push]
                            simp only [ByteArray.data_empty, Array.toList_empty, List.nil_append]
                            exact toNat_ofNat_list l b2
                        · exfalso
                          subst e1
                          generalize hg : evC G x t = g at hx hns
                          cases hx
                          · exact hns _ rfl
                          · simp [elemsN, hg] at hcs
                      · trivial
                    · trivial
                · trivial
              | _ => simp only [convertC, hu, hd, he]; trivial
            | _ => simp only [convertC, hu, hd, he]; trivial
        | _ => simp only [convertC, hu, hd]; exact hp
      | int k1 =>
        cases d2 with
        | int k =>
          simp only [convertC, hu, hd]
          split
          · rename_i k0 n e1
            rw [e1] at hx
            cases hx
            exact .ofVal h (v := .int k (k.wrap n)) (by simp [execOp, ho, hv, convert, run_underlying hu, run_underlying hd, Conv.intToInt]) (.int _ _)
          · trivial
        | _ => simp only [convertC, hu, hd]; exact hp
      | _ => simp only [convertC, hu, hd]; exact hp
end
end Go.Am
