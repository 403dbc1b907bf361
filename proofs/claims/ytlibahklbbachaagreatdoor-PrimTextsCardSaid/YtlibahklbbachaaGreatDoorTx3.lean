import Derived.Test.YtlibahklbbachaaGreatDoorTx2
import Derived.Laws.BytesString
import Derived.MapKept
import Derived.Carry
import Derived.Lib.UnsafeStr
import Derived.Lib.Builder
import Derived.Test.YtlibahklbbachaaGreatDoorTx1
import Derived.Orders
set_option autoImplicit false
set_option maxRecDepth 100000
set_option linter.unusedSimpArgs false
set_option linter.unusedVariables false
section
namespace Go.Am
def Env.addZ (E : Env) (b : Nat) (c : Array Value) : Env := { E with z := fun b' o => if b' = b then c[o]? else E.z b' o }
theorem Step.frozen {E : Env} {s : St} {w w' : World} (h : Rel E s w) (c : Array Value) (hsz : w.heap.size ≤ w'.heap.size) (hold : ∀ b, b < w.heap.size → w'.heap[b]? = w.heap[b]?)
    (hc : ∀ (i : Nat) (v : Value), c[i]? = some v → w'.cell? ⟨w.heap.size, i, none⟩ = some v) (h1 : w'.os = w.os) (h2 : w'.tape = w.tape) (h3 : w'.output = w.output) :
    Step E s w (E.addZ w.heap.size c) s w' := by
  have hle : E.le (E.addZ w.heap.size c) := by
    refine ⟨fun _ _ e => e, fun b o v e => ?_, fun _ _ _ _ => rfl, fun _ _ e => e, rfl⟩
    simp only [Env.addZ]
    by_cases hb : b = w.heap.size
    · subst hb
      have := World.block_lt_of_cell? w _ (h.z _ o v e)
      simp at this
    · rw [if_neg hb]; exact e
  refine ⟨hle, fun _ _ => rfl, fun r _ base e => .inr ⟨r, base, e⟩, ?_, fun _ _ _ _ _ => rfl, Nat.le_refl _, fun b hb _ _ => hold b hb, h1, h2, h3, hsz, fun _ _ e => .inl e, fun _ d e => ⟨d, e⟩, fun b o v e => ?_⟩
  rotate_left
  · simp only [Env.addZ] at e
    by_cases hb : b = w.heap.size
    · exact .inr (.inl (Nat.le_of_eq hb.symm))
    · rw [if_neg hb] at e; exact .inl e
  refine ⟨h.wf, fun r b base e => ⟨(h.lt r b base e).1, Nat.lt_of_lt_of_le (h.lt r b base e).2 hsz⟩, h.obj, ?_, ?_, ?_, ?_, h.iter, h.coh, h.b0, fun n d b e eb w1 hw => h.hid n d b e eb w1 fun k hk => (hw k hk).trans (hold k (h.own n k hk).1), fun n k hk => ?_, h.hlt⟩
  rotate_right
  · obtain ⟨o1, o2, o3, o4⟩ := h.own n k hk
    refine ⟨Nat.lt_of_lt_of_le o1 hsz, o2, fun o => ?_, o4⟩
    simp only [Env.addZ]
    rw [if_neg (by omega)]; exact o3 o
  · intro b i v e
    simp only [Env.addZ] at e
    by_cases hb : b = w.heap.size
    · subst hb; rw [if_pos rfl] at e; exact hc i v e
    · rw [if_neg hb] at e
      have h4 := h.z b i v e
      exact (World.cell?_of_block (hold b (World.block_lt_of_cell? w _ h4))).trans h4
  · intro b i v r base e e2
    have e2' : E.loc r = some (b, base) := e2
    simp only [Env.addZ] at e
    by_cases hb : b = w.heap.size
    · subst hb; have := (h.lt r _ base e2').2; omega
    · rw [if_neg hb] at e; exact h.zap b i v r base e e2'
  · intro r o b base e el
    obtain ⟨c', ty', fz, g1, g2, g3, g4⟩ := h.row r o b base e el
    refine ⟨c', ty', fz, by rw [hold b (h.lt r b base el).2]; exact g1, g2, g3, fun hv' => ?_⟩
    obtain ⟨hz, vs', k1, k2⟩ := g4 hv'
    exact ⟨hz, vs', VRL.mono hle k1, k2⟩
  · intro r es b base e el
    obtain ⟨ents, clock, g1, g2, g3⟩ := h.mapo r es b base e el
    exact ⟨ents, clock, by rw [hold b (h.lt r b base el).2]; exact g1, VRL.mono hle g2, VRL.mono hle g3⟩
section
variable {P : Program} {G : Glob} {E : Env} {s : St} {w : World} {t : T} {a : Act} {o : Oper}
theorem bytesA_ok (l : List UInt8) : VRL E (bytesA (l.map (·.toNat))) (l.map fun b => Value.int .u8 b.toNat) := by
  induction l with
  | nil => exact .nil
  | cons b l ih => exact .cons (.int _ _) ih
theorem heap_freeze (w : World) (x : Addr) (n b : Nat) (h : b ≠ x.block) : (w.freeze x n).heap[b]? = w.heap[b]? := by
  unfold World.freeze
  split
  · rfl
  · simp only [Array.getElem?_modify]; rw [if_neg (by omega)]
theorem size_freeze (w : World) (x : Addr) (n : Nat) : (w.freeze x n).heap.size = w.heap.size := by
  unfold World.freeze
  split
  · rfl
  · simp
theorem cell_freeze (w : World) (x : Addr) (n : Nat) (y : Addr) : (w.freeze x n).cell? y = w.cell? y := by
  unfold World.freeze
  split
  · rfl
  · simp only [World.cell?, Array.getElem?_modify]
    by_cases h : x.block = y.block
    · rw [if_pos h]
      cases hb : w.heap[y.block]? with
      | none => rfl
      | some o => cases o <;> rfl
    · rw [if_neg h]
theorem freeze_rest (w : World) (x : Addr) (n : Nat) : (w.freeze x n).os = w.os ∧ (w.freeze x n).tape = w.tape ∧ (w.freeze x n).output = w.output := by
  unfold World.freeze
  split <;> exact ⟨rfl, rfl, rfl⟩
theorem run_stringToBytes (e : TypeId) (bs : ByteArray) (w : World) :
    ∃ (c : Array Value) (cap : Nat) (w' : World), (Conv.stringToBytes e bs).run P w = .ok (.slice (some ⟨w.heap.size, 0, none⟩) bs.size cap) w' ∧ bs.size ≤ cap ∧
      c = (bs.data.map fun b => Value.int .u8 b.toNat) ∧ w.heap.size ≤ w'.heap.size ∧ (∀ b, b < w.heap.size → w'.heap[b]? = w.heap[b]?) ∧
      (∀ (i : Nat) (v : Value), c[i]? = some v → w'.cell? ⟨w.heap.size, i, none⟩ = some v) ∧ w'.os = w.os ∧ w'.tape = w.tape ∧ w'.output = w.output := by
  generalize hC : (bs.data.map fun b => Value.int .u8 b.toNat) ++ Array.replicate ((Question.appendCap bs.size 0 e).cut (w.tape w.drawn (Question.appendCap bs.size 0 e)) - bs.size) (Value.int IntKind.u8 0) = C
  have hnew : (w.drew.alloc (.cells C e)).heap[w.heap.size]? = some (.cells C e) := heap_alloc_new w.drew _
  have hsh : (w.drew.alloc (.cells C e)).shape? w.heap.size = some (e, C.size) := by
    simp only [World.shape?]
    rw [hnew]
  have hfr := freeze_rest (w.drew.alloc (.cells C e)) ⟨w.heap.size, C.size, none⟩ 1
  refine ⟨_, grownCap w bs.size 0 e, (w.drew.alloc (.cells C e)).freeze ⟨w.heap.size, C.size, none⟩ 1, ?_, grownCap_ge w _ _ _, rfl, ?_, ?_, ?_, hfr.1, hfr.2.1, hfr.2.2⟩
  · simp [Conv.stringToBytes, Question.forced, Go.newRow, markStringish, grownCap, hC, hsh]
  · rw [size_freeze]; simp
  · intro b hb
    rw [heap_freeze _ _ _ _ (by simp; omega)]
    exact heap_alloc_old w.drew _ b hb
  · intro i v hi
    rw [cell_freeze]
    simp only [World.cell?]
    rw [hnew]
    simp only [← hC]
    have hlt : i < (bs.data.map fun b => Value.int .u8 b.toNat).size := (Array.getElem?_eq_some_iff.1 hi).1
    simp only [Option.isSome_none, Bool.false_eq_true, if_false]
    rw [Array.getElem?_append_left hlt]
    exact hi
theorem bytesOf_ok : ∀ {cs : List AV} {l : List Nat}, bytesOf cs = some l → ∀ {vs : List Value}, VRL E cs vs →
    vs = (l.map fun (n : Nat) => Value.int .u8 (n : Int)) ∧ ∀ n ∈ l, n < 256
  | [], l, h, vs, hv => by simp [bytesOf] at h; subst h; cases hv; exact ⟨rfl, fun _ h => by simp at h⟩
  | .int .u8 (.ofNat n) :: cs, l, h, vs, hv => by
    simp only [bytesOf] at h
    rcases Bool.eq_false_or_eq_true (Nat.blt n 256) with hb | hb
    · rw [cond_of_true hb] at h
      split at h
      · rename_i q hq
        cases h
        cases hv with
        | cons h1 h2 =>
          cases h1
          obtain ⟨e1, e2⟩ := bytesOf_ok hq h2
          refine ⟨by rw [e1]; rfl, fun m hm => ?_⟩
          rcases List.mem_cons.1 hm with rfl | hm
          · exact Nat.le_of_ble_eq_true hb
          · exact e2 m hm
      · cases h
    · rw [cond_of_false hb] at h; cases h
theorem foldl_push (ns : List Nat) : ∀ (s : ByteArray), ((ns.map fun (n : Nat) => (n : Int)).foldl (fun r n => r.push (UInt8.ofNat n.toNat)) s).data.toList = s.data.toList ++ ns.map UInt8.ofNat := by
  induction ns with
  | nil => intro s; simp
  | cons n ns ih =>
    intro s
    simp only [List.map_cons, List.foldl_cons, ih]
    simp [ByteArray.push]
theorem toNat_ofNat_list : ∀ (l : List Nat), (∀ n ∈ l, n < 256) → (l.map UInt8.ofNat).map (·.toNat) = l
  | [], _ => rfl
  | n :: l, h => by
    have hn := h n (by simp)
    simp only [List.map_cons]
    rw [toNat_ofNat_list l (fun m hm => h m (by simp [hm]))]
    congr 1
    rw [UInt8.toNat_ofNat']
    exact Nat.mod_eq_of_lt hn
theorem VR.ofBytes {l : List Nat} {s : ByteArray} (h : s.data.toList.map (·.toNat) = l) : VR E (.str l) (.string s) := by subst h; exact .str s
theorem elems_ok (h : Rel E s w) {es m : Nat} {x : AV} {cs : List AV} (hc : elemsN es m x s = some cs) {v : Value} (hv : VR E x v) :
    (∃ (ad : Option Addr) (len cap : Nat) (vs : List Value), v = .slice ad len cap ∧ VRL E cs vs ∧ vs.length = m * es ∧
      (0 < vs.length → ∃ b off, ad = some ⟨b, off, none⟩ ∧ ∀ (i : Nat) (u : Value), vs[i]? = some u → w.cell? ⟨b, off + i, none⟩ = some u)) ∨
    (∃ bs : ByteArray, v = .string bs ∧ VRL E cs ((bs.data.toList.take m).map fun b => Value.int .u8 b.toNat)) := by
  cases hv with
  | lst hcs hle htt hn hcc hz =>
    simp only [elemsN] at hc
    obtain ⟨e1, e2⟩ := takeN_eq hc
    rename_i vs len cap tight nl ad
    have hl := hcs.length
    refine .inl ⟨ad, len, cap, vs.take (m * es), rfl, by rw [e1]; exact hcs.take _, by rw [List.length_take]; omega, fun hp => ?_⟩
    have hvs : vs ≠ [] := by rintro rfl; simp at hp
    obtain ⟨b, base, e3, e4⟩ := hz hvs
    exact ⟨b, base, e3, fun i u hu => h.z _ _ _ (e4 i u (take_at _ _ _ _ hu))⟩
  | sl hl hle htt hcc hsome =>
    simp only [elemsN] at hc
    rename_i r b base off len es' cap tight ad
    rcases Bool.eq_false_or_eq_true (m.beq 0) with hb | hb
    · rw [cond_of_true hb] at hc
      cases hc
      have := Nat.eq_of_beq_eq_true hb
      subst this
      exact .inl ⟨ad, len, cap, [], rfl, .nil, by simp, fun hp => by simp at hp⟩
    · rw [cond_of_false hb] at hc
      rcases Bool.eq_false_or_eq_true (es.beq es' && Nat.ble m len) with hb2 | hb2
      · rw [cond_of_true hb2] at hc
        rw [Bool.and_eq_true] at hb2
        have hes := Nat.eq_of_beq_eq_true hb2.1
        have hml := Nat.le_of_ble_eq_true hb2.2
        subst hes
        obtain ⟨b', off', vs, e1, e2, e3, e4⟩ := h.cells hc (.ptr off hl)
        cases e1
        refine .inl ⟨ad, len, cap, vs, rfl, e2, by rw [← e2.length]; exact e3, fun hp => ?_⟩
        have hm0 : m ≠ 0 := fun e => by subst e; simp at hb
        exact ⟨b, base + off, (hcc (by omega)).1, e4⟩
      · rw [cond_of_false hb2] at hc; cases hc
  | str bs =>
    simp only [elemsN] at hc
    rcases Bool.eq_false_or_eq_true (es.beq 1) with hb | hb
    · rw [cond_of_true hb] at hc
      cases hc
      exact .inr ⟨bs, rfl, by rw [← List.map_take]; exact bytesA_ok _⟩
    · rw [cond_of_false hb] at hc; cases hc
  | _ => simp [elemsN] at hc
theorem convertC_ok (h : Rel E s w) (hG : GlobOk E G w) (ht : TR E t a) {src dst : TypeId} {x : Operand} (ho : o.op = .convert src dst x) : OpOk P E s w o a (convertC P G o src dst (evC G x) t s) := by
  have hx := evC_ok hG ht x
  have hp : OpOk P E s w o a (plainC P G o t s) := plainC_ok h hG ht (by intro cs b; rw [ho]; simp)
  cases hu : P.underlying src with
  | none => simp only [convertC, hu]; exact hp
  | some d1 =>
    cases hd : P.underlying dst with
    | none => cases d1 <;> (simp only [convertC, hu, hd]; exact hp)
    | some d2 =>
      generalize hv : a.eval x = v at hx
      cases d1 with
      | string =>
        cases d2 with
        | slice e =>
          cases he : P.underlying e with
          | none => simp only [convertC, hu, hd, he]; trivial
          | some d3 =>
            cases d3 with
            | int k =>
              cases k with
              | u8 =>
                cases hs : sizeT P e with
                | none => simp only [convertC, hu, hd, he, hs]; trivial
                | some n =>
                  match n, hs with
                  | 0, hs => simp only [convertC, hu, hd, he, hs]; trivial
                  | n + 2, hs => simp only [convertC, hu, hd, he, hs]; trivial
                  | 1, hs =>
                    simp only [convertC, hu, hd, he, hs]
                    split
                    · rename_i l e1
                      rw [e1] at hx
                      cases hx with
                      | str bs =>
                        obtain ⟨c, cap, w', r1, r2, r3, r4, r5, r6, r7, r8, r9⟩ := run_stringToBytes (P := P) e bs w
                        refine .inl ⟨.slice (some ⟨w.heap.size, 0, none⟩) bs.size cap, w', _, ?_, Step.frozen h c r4 r5 r6 r7 r8 r9, ?_⟩
                        · simp [execOp, ho, hv, convert, run_underlying hu, run_underlying hd, run_underlying he, r1]
                        · have hlen : (bs.data.toList.map (·.toNat)).length = bs.size := by simp
                          rw [hlen]
                          refine .lst (vs := c.toList) ?_ r2 (fun e => by cases e) rfl (fun e => by cases e) (fun _ => ⟨w.heap.size, 0, rfl, fun i v hi => ?_⟩)
                          · rw [r3]; simp only [Array.toList_map]; exact bytesA_ok _
                          · simp only [Env.addZ, Nat.zero_add]
                            rw [if_pos trivial]
                            rwa [Array.getElem?_toList] at hi
                    · trivial
              | _ => simp only [convertC, hu, hd, he]; trivial
            | _ => simp only [convertC, hu, hd, he]; trivial
        | _ => simp only [convertC, hu, hd]; exact hp
      | slice e =>
        cases d2 with
        | string =>
          cases he : P.underlying e with
          | none => simp only [convertC, hu, hd, he]; trivial
          | some d3 =>
            cases d3 with
            | int k =>
              cases k with
              | u8 =>
                simp only [convertC, hu, hd, he]
                split
                · rename_i n hn
                  split
                  · trivial
                  · rename_i y hy hns
                    split
                    · rename_i cs hcs
                      split
                      · rename_i l hl
                        rcases elems_ok h hcs hx with ⟨ad, len, cap, vs, e1, e2, e3, e4⟩ | ⟨bs, e1, _⟩
                        · obtain ⟨b1, b2⟩ := bytesOf_ok hl e2
                          -- how many there are
                          have hlen : n = len := by
                            subst e1
                            generalize hg : evC G x t = g at hx hn
                            cases hx <;> simp [lenA] at hn <;> exact hn.symm
                          subst hlen
                          simp only [Nat.mul_one] at e3
                          have hfirst : (convert src dst v).run P w = .ok (.string ((l.map fun (n : Nat) => (n : Int)).foldl (fun r n => r.push (UInt8.ofNat n.toNat)) ByteArray.empty)) w := by
                            subst e1
                            cases ad with
                            | none =>
                              have : vs = [] := by
                                cases vs with
                                | nil => rfl
                                | cons z zs => obtain ⟨_, _, e5, _⟩ := e4 (by simp); cases e5
                              rw [this] at b1
                              have hl0 : l = [] := by cases l with | nil => rfl | cons => simp at b1
                              subst hl0
                              simp [convert, run_underlying hu, run_underlying hd, run_underlying he, Conv.bytesToString]
                            | some ad =>
                              have hload : (loadCells ad n).run P w = .ok ((l.map fun (n : Nat) => (n : Int)).map (Value.int .u8)).toArray w := by
                                have e6 : ((l.map fun (n : Nat) => (n : Int)).map (Value.int .u8)) = vs := by rw [b1]; simp
                                rw [e6, ← e3]
                                refine run_loadCells_list (P := P) (w := w) ad vs (fun j u hj => ?_)
                                have hp0 : 0 < vs.length := by cases vs with | nil => simp at hj | cons => simp
                                obtain ⟨b, off, e5, e7⟩ := e4 hp0
                                cases e5
                                rw [Addr.add_lit]; exact e7 j u hj
                              have := run_bytesToString (P := P) w ad n cap _ hload
                              simp [convert, run_underlying hu, run_underlying hd, run_underlying he, this]
                          refine .ofVal h (v := .string ((l.map fun (n : Nat) => (n : Int)).foldl (fun r n => r.push (UInt8.ofNat n.toNat)) ByteArray.empty)) ?_ (VR.ofBytes ?_)
                          · simp only [execOp, ho, hv, Sem.run_bind, hfirst, Result.andThen_ok]; rfl
                          · rw [foldl_push]
                            simp only [ByteArray.data_empty, Array.toList_empty, List.nil_append]
                            exact toNat_ofNat_list l b2
                        · exfalso
                          subst e1
                          generalize hg : evC G x t = g at hx hns
                          cases hx
                          · exact hns _ rfl
                          all_goals simp [elemsN, hg] at hcs
                      · trivial
                    · trivial
                · trivial
              | _ => simp only [convertC, hu, hd, he]; trivial
            | _ => simp only [convertC, hu, hd, he]; trivial
        | _ => simp only [convertC, hu, hd]; exact hp
      | int k1 =>
        cases d2 with
        | int k =>
          simp only [convertC, hu, hd]
          split
          · rename_i k0 n e1
            rw [e1] at hx
            cases hx
            exact .ofVal h (v := .int k (k.wrap n)) (by simp [execOp, ho, hv, convert, run_underlying hu, run_underlying hd, Conv.intToInt]) (.int _ _)
          · trivial
        | _ => simp only [convertC, hu, hd]; exact hp
      | _ => simp only [convertC, hu, hd]; exact hp
end
end Go.Am
end
section
namespace Go.Am
open Go.MapKept (IsKey run_checkKey run_findKey)
def Enters (P : Program) (f : FuncId) : Prop := ∃ fn, P.funcs[f]? = some fn ∧ fn.body.isSome = true ∧ fn.name ≠ "runtime.NumGoroutine"
def ResOk (P : Program) (E : Env) (s : St) (w : World) (f : FuncId) (vs : List Value) : Res → Prop
  | .fail => True
  | .ret x s' => (Enters P f ∧ Calls P f ⟨vs⟩ w fun e w' => ∃ v' E', e = .returned v' ∧ Step E s w E' s' w' ∧ VR E' x v') ∨
      ∃ v' w' E', (callFunc f ⟨vs⟩).run P w = .ok (.value v') w' ∧ Step E s w E' s' w' ∧ VR E' x v'
  | .panic x s' => Enters P f ∧ Calls P f ⟨vs⟩ w fun e w' => ∃ v' E', e = .panicked [{ v := v', recovered := false }] ∧ Step E s w E' s' w' ∧ VR E' x v'
def CFok (P : Program) (G : Glob) (callF : CF) : Prop :=
  ∀ (f : FuncId) (args : List AV) (s : St) (E : Env) (w : World) (vs : List Value), Rel E s w → GlobOk E G w → VRL E args vs → ResOk P E s w f vs (callF f args s)
section
variable {P : Program} {G : Glob} {E : Env} {s : St} {w : World} {t : T} {a : Act} {o : Oper}
theorem getObj_map {r : Nat} {es : Array MapEntry} {clock : Nat} (hb : w.heap[r]? = some (.map es clock)) : (getObj r).run P w = .ok (.map es clock) w := by
  simp [getObj, Sem.run, hb]
theorem run_callFunc {f : FuncId} (h : Enters P f) (args : Array Value) (w : World) : (callFunc f args).run P w = .ok (.enter f args) w := by
  obtain ⟨fn, h1, h2, h3⟩ := h
  have h5 : fn.body ≠ none := by intro e; rw [e] at h2; cases h2
  simp [callFunc, h1, h3, h5]
theorem backNx_ok {f : FuncId} {vs : List Value} {r : Res} (h : ResOk P E s w f vs r) (hrun : (execOp a.eval o).run P w = (callFunc f ⟨vs⟩).run P w) : OpOk P E s w o a (backNx r) := by
  cases r with
  | fail => trivial
  | ret x s' =>
    rcases h with ⟨h1, h2⟩ | ⟨v', w', E', h1, h2, h3⟩
    · exact .inr ⟨f, ⟨vs⟩, by rw [hrun, run_callFunc h1], h2⟩
    · exact .inl ⟨v', w', E', by rw [hrun, h1], h2, h3⟩
  | panic x s' =>
    obtain ⟨h1, h2⟩ := h
    exact .inr ⟨f, ⟨vs⟩, by rw [hrun, run_callFunc h1], h2⟩
theorem callC_ok (h : Rel E s w) (hG : GlobOk E G w) (ht : TR E t a) {callF : CF} (hc : CFok P G callF) {f : Operand} {args : Array Operand} {ts : Array TypeId}
    (ho : o.op = .call { callee := .value f, args := args, argTypes := ts }) : OpOk P E s w o a (callC G callF f args.toList t s) := by
  have hargs := evL_ok hG ht args.toList
  have key : ∀ (g : FuncId) (first captured : List AV) (x y : List Value), a.eval f = .func (.func g) ⟨x⟩ ⟨y⟩ → VRL E first x → VRL E captured y →
      OpOk P E s w o a (backNx (callF g (first ++ evL G args.toList t ++ captured) s)) := by
    intro g first captured x y hf h1 h2
    refine backNx_ok (hc g _ s E w _ h hG ((h1.append hargs).append h2)) ?_
    have e : (⟨x⟩ ++ args.map a.eval ++ ⟨y⟩ : Array Value) = ⟨x ++ args.toList.map a.eval ++ y⟩ := by
      apply Array.ext'
      simp
    rw [← e] at *
    simp [execOp, ho, resolve, hf, Deferred.ofValue, invoke]
  have hf := evC_ok hG ht f
  unfold callC
  split
  · rename_i g
    have := key g [] [] [] [] rfl .nil .nil
    simpa using this
  · simp only
    split
    · rename_i g first captured e
      rw [e] at hf
      generalize hv : a.eval f = v at hf
      cases hf with
      | fn h1 h2 => exact key g first captured _ _ hv h1 h2
    · trivial
theorem deferC_ok (hG : GlobOk E G w) (ht : TR E t a) {f : Operand} {args : Array Operand} {ts : Array TypeId}
    (ho : o.op = .defer { callee := .value f, args := args, argTypes := ts }) : OpOk P E s w o a (deferC G f args.toList t s) := by
  have hargs := evL_ok hG ht args.toList
  have hf := evC_ok hG ht f
  unfold deferC
  split
  · rename_i g first captured e
    rw [e] at hf
    generalize hv : a.eval f = v at hf
    cases hf with
    | fn h1 h2 =>
      rename_i x y
      refine ⟨rfl, { target := .fn (.func g) ⟨y⟩, args := ⟨x⟩ ++ args.map a.eval }, ?_, y, rfl, ?_⟩
      · simp [execOp, ho, resolve, hv, Deferred.ofValue]
      · simpa using (h1.append hargs).append h2
  · trivial
theorem pickC_ok (h : Rel E s w) (hG : GlobOk E G w) (ht : TR E t a) {c x y : Operand} (ho : o.op = .pick c x y) : OpOk P E s w o a (pickC (evC G c) (evC G x) (evC G y) t s) := by
  have hc := evC_ok hG ht c
  have hx := evC_ok hG ht x
  have hy := evC_ok hG ht y
  unfold pickC
  split
  · rename_i u e
    rw [e] at hc
    generalize hv : a.eval c = v at hc
    cases hc
    cases u with
    | true => exact .ofVal h (v := a.eval x) (by simp [execOp, ho, hv, asBool]) hx
    | false => exact .ofVal h (v := a.eval y) (by simp [execOp, ho, hv, asBool]) hy
  · trivial
theorem extractC_ok (h : Rel E s w) (hG : GlobOk E G w) (ht : TR E t a) {x : Operand} {i : Nat} (ho : o.op = .extract x i) : OpOk P E s w o a (extractC i (evC G x) t s) := by
  have hx := evC_ok hG ht x
  unfold extractC
  split
  · rename_i vs e
    rw [e] at hx
    generalize hv : a.eval x = v at hx
    cases hx with
    | tup hc =>
      refine valO_ok h fun y hy => ?_
      obtain ⟨u, h1, h2⟩ := hc.at_ hy
      exact ⟨u, by simp [execOp, ho, hv, Instr.extract, h1], h2⟩
  · trivial
theorem makeInterfaceC_ok (h : Rel E s w) (hG : GlobOk E G w) (ht : TR E t a) {x : Operand} {ty : TypeId} (ho : o.op = .makeInterface ty x) : OpOk P E s w o a (makeInterfaceC P ty (evC G x) t s) := by
  have hx := evC_ok hG ht x
  unfold makeInterfaceC
  cases hu : P.underlying ty with
  | none => trivial
  | some d =>
    cases d with
    | interface ms => trivial
    | _ => exact .ofVal h (v := .iface ty (a.eval x)) (by simp [execOp, ho, Instr.makeInterface, run_underlying hu]) (.ifc hx)
theorem panicC_ok (h : Rel E s w) (hG : GlobOk E G w) (ht : TR E t a) {x : Operand} (ho : o.op = .panic x) : OpOk P E s w o a (panicC (evC G x) t s) := by
  have hx := evC_ok hG ht x
  unfold panicC
  split
  · rename_i ty v e
    rw [e] at hx
    generalize hv : a.eval x = u at hx
    cases hx with
    | ifc h1 => exact .inl ⟨_, w, E, by simp [execOp, ho, hv, Instr.panic, goPanic, Sem.run], .refl h, .ifc h1⟩
  · trivial
theorem typeAssertC_ok (h : Rel E s w) (hG : GlobOk E G w) (ht : TR E t a) {x : Operand} {xt asserted : TypeId} {ok : Bool} (ho : o.op = .typeAssert x xt asserted ok) :
    OpOk P E s w o a (typeAssertC P (evC G x) asserted ok t s) := by
  have hx := evC_ok hG ht x
  have key : ∀ (d : TypeDesc), P.underlying asserted = some d → (∀ ms, d ≠ .interface ms) → ∀ z, zeroT P asserted = some z →
      OpOk P E s w o a (match evC G x t with
      | .nilifc => bif ok then .val (.tup [z, .bool false]) s else .fail
      | .ifc ty y => bif ty.beq asserted then .val (bif ok then .tup [y, .bool true] else y) s
        else bif ok then .val (.tup [z, .bool false]) s else .fail
      | _ => .fail) := by
    intro d hu hd z hz
    obtain ⟨z', z1, z2⟩ := zeroT_run hz w
    have hzr := ofV_ok E z1
    generalize hv : a.eval x = v at hx
    split
    · rename_i e
      rw [e] at hx
      cases hx
      cases ok with
      | false => trivial
      | true =>
        refine .ofVal h (v := .tuple #[z', .bool false]) ?_ (.tup (.cons hzr (.cons (.bool _) .nil)))
        cases d <;> first | (simp [execOp, ho, hv, Instr.typeAssert, run_underlying hu, z2]; done) | exact absurd rfl (hd _)
    · rename_i ty y e
      rw [e] at hx
      cases hx with
      | ifc h1 =>
        rename_i u
        rcases Bool.eq_false_or_eq_true (ty.beq asserted) with hb | hb
        · rw [cond_of_true hb]
          have := Nat.eq_of_beq_eq_true hb
          subst this
          cases ok with
          | true =>
            refine .ofVal h (v := .tuple #[u, .bool true]) ?_ (.tup (.cons h1 (.cons (.bool _) .nil)))
            cases d <;> first | (simp [execOp, ho, hv, Instr.typeAssert, run_underlying hu]; done) | exact absurd rfl (hd _)
          | false =>
            refine .ofVal h (v := u) ?_ h1
            cases d <;> first | (simp [execOp, ho, hv, Instr.typeAssert, run_underlying hu]; done) | exact absurd rfl (hd _)
        · rw [cond_of_false hb]
          have hne : ty ≠ asserted := fun e => by subst e; simp at hb
          cases ok with
          | false => trivial
          | true =>
            refine .ofVal h (v := .tuple #[z', .bool false]) ?_ (.tup (.cons hzr (.cons (.bool _) .nil)))
            cases d <;> first | (simp [execOp, ho, hv, Instr.typeAssert, run_underlying hu, z2, hne]; done) | exact absurd rfl (hd _)
    · trivial
  unfold typeAssertC
  cases hu : P.underlying asserted with
  | none => trivial
  | some d =>
    cases hz : zeroT P asserted with
    | none => cases d <;> trivial
    | some z =>
      cases d with
      | interface ms => trivial
      | _ => exact key _ hu (by intro ms; simp) z hz
theorem sliceC_ok (h : Rel E s w) (hG : GlobOk E G w) (ht : TR E t a) {x : Operand} {ty : TypeId} {lo hi mx : Option Operand} (ho : o.op = .slice ty x lo hi mx) :
    OpOk P E s w o a (sliceC P ty (evC G x) (lo.map (evC G)) (hi.map (evC G)) (mx.map (evC G)) t s) := by
  have hx := evC_ok hG ht x
  generalize hv : a.eval x = v at hx
  unfold sliceC
  cases hu : P.underlying ty with
  | none => trivial
  | some d =>
    cases d with
    | slice e =>
      cases hs : sizeT P e with
      | none => simp only [hs]; trivial
      | some n =>
        simp only [hs]
        split
        · trivial
        · rename_i y hy
          refine valO_ok h fun z hz => ?_
          obtain ⟨ad, len, cap, l, hh, m, e1, e2, e3⟩ := sliceA_ok (P := P) hG ht hy hz hx true w
          refine ⟨_, ?_, e3⟩
          subst e1
          simp [execOp, ho, hv, Instr.sliceAt, Instr.slice, run_underlying hu, e2, sizeT_run hs]
    | string =>
      simp only
      split
      · rename_i b e0
        rw [e0] at hx
        refine valO_ok h fun z hz => ?_
        obtain ⟨bs, l, hh, m, e1, e2, e3, e4⟩ := sliceStr_ok (P := P) hG ht hz hx w
        refine ⟨_, ?_, e4⟩
        subst e1 e2
        simp [execOp, ho, hv, Instr.sliceAt, Instr.slice, run_underlying hu, e3]
      · trivial
    | array len e =>
      cases hs : sizeT P e with
      | none => simp only [hs]; trivial
      | some n =>
        simp only [hs]
        split
        · rename_i r off e0
          rw [e0] at hx
          split
          · rename_i o' ho'
            rcases Bool.eq_false_or_eq_true (Nat.ble (off + len * n) o'.vals.length) with hb | hb
            · rw [cond_of_true hb]
              have hfit := Nat.le_of_ble_eq_true hb
              cases hx with
              | ptr off hl =>
                rename_i b base
                obtain ⟨c, cty, fz, g1, g2, g3, _⟩ := h.row r o' b base ho' hl
                refine valO_ok h fun z hz => ?_
                have hsl : VR E (.sl r off len n true) (.slice (some ⟨b, base + off, none⟩) len len) := .sl hl (Nat.le_refl _) (fun _ => rfl) (fun _ => ⟨rfl, by omega⟩) (by simp)
                obtain ⟨ad, len', cap, l, hh, m, e1, e2, e3⟩ := sliceA_ok (P := P) hG ht (by intro b; simp) hz hsl false w
                cases e1
                refine ⟨_, ?_, e3⟩
                simp only [execOp, ho, hv, Instr.sliceAt, Sem.run_bind, run_underlying hu, Result.andThen_ok, Instr.sureAddr, Sem.run_pure, e2, sizeT_run hs]
                split <;> rfl
            · rw [cond_of_false hb]; trivial
          · trivial
        · trivial
    | _ => trivial
theorem lenC_ok (h : Rel E s w) (hG : GlobOk E G w) (ht : TR E t a) {x : Operand} {ty : TypeId} (ho : o.op = .call { callee := .builtin .len, args := #[x], argTypes := #[ty] }) :
    OpOk P E s w o a (lenC P ty (evC G x) t s) := by
  have hx := evC_ok hG ht x
  generalize hv : a.eval x = v at hx
  unfold lenC
  cases hu : P.underlying ty with
  | none => trivial
  | some d =>
    cases d with
    | slice e =>
      simp only
      split
      · rename_i e0; rw [e0] at hx; cases hx
        exact .ofVal h (v := .int .i64 _) (by simp [execOp, ho, hv, resolve, invoke, builtin, Builtin.len_, run_underlying hu, goInt]) (.int _ _)
      · rename_i e0; rw [e0] at hx; cases hx
        exact .ofVal h (v := .int .i64 _) (by simp [execOp, ho, hv, resolve, invoke, builtin, Builtin.len_, run_underlying hu, goInt]) (.int _ _)
      · trivial
    | string =>
      simp only
      split
      · rename_i e0; rw [e0] at hx; cases hx with
        | str bs =>
          refine .ofVal h (v := .int .i64 bs.size) (by simp [execOp, ho, hv, resolve, invoke, builtin, Builtin.len_, run_underlying hu, goInt]) ?_
          rw [List.length_map, Array.length_toList]
          exact .int _ _
      · trivial
    | map k e =>
      simp only
      split
      · rename_i es he
        generalize hg : evC G x t = g at hx he
        cases hx with
        | mpn =>
          simp only [mapEs, Option.some.injEq] at he
          subst he
          exact .ofVal h (v := .int .i64 0) (by simp [execOp, ho, hv, resolve, invoke, builtin, Builtin.len_, run_underlying hu, goInt]) (.int _ _)
        | mp hl =>
          simp only [mapEs] at he
          split at he
          · rename_i es' hes
            cases he
            obtain ⟨ents, clock, m1, m2, m3⟩ := h.mapo _ _ _ _ hes hl
            have hlen := m2.length
            simp only [List.length_map, Array.length_toList] at hlen
            rw [hlen]
            exact .ofVal h (v := .int .i64 ents.size) (by simp [execOp, ho, hv, resolve, invoke, builtin, Builtin.len_, run_underlying hu, goInt, getObj_map m1]) (.int _ _)
          · cases he
        | _ => simp [mapEs] at he
      · trivial
    | array n e => exact .ofVal h (v := .int .i64 n) (by simp [execOp, ho, hv, resolve, invoke, builtin, Builtin.len_, run_underlying hu, goInt]) (.int _ _)
    | _ => trivial
theorem capC_ok (h : Rel E s w) (hG : GlobOk E G w) (ht : TR E t a) {x : Operand} {ty : TypeId} (ho : o.op = .call { callee := .builtin .cap, args := #[x], argTypes := #[ty] }) :
    OpOk P E s w o a (capC P ty (evC G x) t s) := by
  have hx := evC_ok hG ht x
  generalize hv : a.eval x = v at hx
  unfold capC
  cases hu : P.underlying ty with
  | none => trivial
  | some d =>
    cases d with
    | slice e =>
      simp only
      split
      · rename_i e0; rw [e0] at hx; cases hx with
        | sl h1 h2 h3 h4 hsome =>
          have := h3 rfl
          subst this
          exact .ofVal h (v := .int .i64 _) (by simp [execOp, ho, hv, resolve, invoke, builtin, Builtin.cap_, run_underlying hu, goInt]) (.int _ _)
      · rename_i e0; rw [e0] at hx; cases hx with
        | lst h1 h2 h3 h4 h5 h6 =>
          have := h3 rfl
          subst this
          exact .ofVal h (v := .int .i64 _) (by simp [execOp, ho, hv, resolve, invoke, builtin, Builtin.cap_, run_underlying hu, goInt]) (.int _ _)
      · trivial
    | _ => trivial
theorem seqT_kind {tx : TypeId} (h : seqT P tx = true) : (∃ e', P.underlying tx = some (.slice e')) ∨ P.underlying tx = some .string := by
  unfold seqT at h
  split at h
  · rename_i e he; exact .inl ⟨e, he⟩
  · rename_i he; exact .inr he
  · cases h
theorem src_of (h : Rel E s w) {es k : Nat} {x : AV} {new : List AV} (hc : elemsN es k x s = some new) {v : Value} (hv : VR E x v) (hk : lenA x = some k) {tx : TypeId} (hty : seqT P tx = true)
    (hone : new.all AV.single = true) : ∃ news, VRL E new news ∧ Src P es tx v k news w := by
  rcases elems_ok h hc hv with ⟨ad, len, cap, vs, e1, e2, e3, e4⟩ | ⟨bs, e1, e2⟩
  · have hlen : k = len := by
      subst e1
      cases hv <;> simp [lenA] at hk <;> exact hk.symm
    subst hlen
    subst e1
    refine ⟨vs, e2, seqT_kind hty, fun _ => rfl, ?_, ?_, e3, e2.single hone⟩
    · exact firstCells_of e3 e4
    · refine firstCells_of e3 (fun hp => ?_)
      obtain ⟨b, off, a1, a2⟩ := e4 hp
      exact ⟨b, off, a1, fun i u hu => a2 i u hu⟩
  · subst e1
    cases hv with
    | str =>
      have h1 : es = 1 := by
        simp only [elemsN] at hc
        rcases Bool.eq_false_or_eq_true (es.beq 1) with hb | hb
        · exact Nat.eq_of_beq_eq_true hb
        · rw [cond_of_false hb] at hc; cases hc
      subst h1
      simp only [lenA, List.length_map, Array.length_toList, Option.some.injEq] at hk
      have hsz : bs.size = k := hk
      subst hsz
      have htk : bs.data.toList.take bs.size = bs.data.toList := List.take_of_length_le (by simp)
      rw [htk] at e2
      exact ⟨_, e2, seqT_kind hty, fun _ => rfl, firstCells_string bs w, firstCells_string bs w.drew, by rw [List.length_map, Array.length_toList, Nat.mul_one]; rfl, fun u hu => by
        obtain ⟨_, _, rfl⟩ := List.mem_map.1 hu; rfl⟩
    | lit _ _ => simp [lenA] at hk
    | undef => simp [lenA] at hk
theorem appendA_val (ty : TypeId) (es : Nat) (x : AV) (new : List AV) (n : Nat) (s : St) : (∃ a' s', appendA ty es x new n s = .val a' s') ∨ appendA ty es x new n s = .fail := by
  unfold appendA
  split
  · rcases Bool.eq_false_or_eq_true (n.beq 0) with h0 | h0
    · rw [cond_of_true h0]; exact .inl ⟨_, _, rfl⟩
    · rw [cond_of_false h0]
      rename_i cs len tight nl
      rcases Bool.eq_false_or_eq_true (tight && cs.length.beq (len * es)) with h1 | h1
      · rw [cond_of_true h1]; exact .inl ⟨_, _, rfl⟩
      · rw [cond_of_false h1]; exact .inr rfl
  · rename_i r off len es' tight
    rcases Bool.eq_false_or_eq_true (n.beq 0) with h0 | h0
    · rw [cond_of_true h0]; exact .inl ⟨_, _, rfl⟩
    · rw [cond_of_false h0]
      rcases Bool.eq_false_or_eq_true (es.beq es') with h1 | h1
      · rw [cond_of_true h1]
        split
        · rename_i o _
          rcases Bool.eq_false_or_eq_true (o.ty.beq ty) with h3 | h3
          rotate_left
          · rw [cond_of_false h3]; exact .inr rfl
          rw [cond_of_true h3]
          rcases Bool.eq_false_or_eq_true tight with h2 | h2
          · rw [cond_of_true h2]; split
            · exact .inl ⟨_, _, rfl⟩
            · exact .inr rfl
          · rw [cond_of_false h2]; split
            · unfold appendT
              split
              · exact .inl ⟨_, _, rfl⟩
              · exact .inr rfl
            · exact .inr rfl
        · exact .inr rfl
      · rw [cond_of_false h1]; exact .inr rfl
  · exact .inr rfl
theorem appendC_ok (h : Rel E s w) (hG : GlobOk E G w) (ht : TR E t a) {x y : Operand} {ty tx : TypeId} (ho : o.op = .call { callee := .builtin .append, args := #[x, y], argTypes := #[ty, tx] }) :
    OpOk P E s w o a (appendC P ty tx (evC G x) (evC G y) t s) := by
  have hx := evC_ok hG ht x
  have hy := evC_ok hG ht y
  unfold appendC
  rcases Bool.eq_false_or_eq_true (seqT P tx) with hq | hq
  · rw [cond_of_true hq]
    cases he : sliceElemT P ty with
    | none => trivial
    | some e =>
      cases hs : sizeT P e with
      | none => simp only [hs]; trivial
      | some n =>
        cases hb : bytesT P e with
        | none => simp only [hs, hb]; trivial
        | some b =>
          cases hz : zeroT P e with
          | none => simp only [hs, hb, hz]; trivial
          | some z =>
            simp only [hs, hb, hz]
            rcases Bool.eq_false_or_eq_true (Nat.ble b 65536 && n.beq z.cells.length) with hq2 | hq2
            · rw [cond_of_true hq2]
              rw [Bool.and_eq_true] at hq2
              have hbb := Nat.le_of_ble_eq_true hq2.1
              have hn := Nat.eq_of_beq_eq_true hq2.2
              obtain ⟨ie, z', i1, i2, i3⟩ := zeroT_info hz
              obtain ⟨ie2, e1, e2⟩ := sizeT_info hs
              rw [i1] at e1; cases e1
              obtain ⟨ie3, e3, e4⟩ := bytesT_info hb
              rw [i1] at e3; cases e3
              have hzc : VRL E z.cells z'.cells.toList := (ofV_ok E i3).cells (fun e => ofV_ne (by rw [i3, e]))
              have A : AppTy P ty e ie z' n := ⟨sliceElemT_und he, i1, i2, e2, by have := hzc.length; simp only [Array.length_toList] at this; omega, by rw [e4]; exact hbb⟩
              split
              · rename_i k j hk hj
                rcases Bool.eq_false_or_eq_true (Nat.ble (j + k) 1073741824) with hq3 | hq3
                · rw [cond_of_true hq3]
                  have hjk := Nat.le_of_ble_eq_true hq3
                  split
                  · rename_i new hnew
                    rcases Bool.eq_false_or_eq_true (new.all AV.single) with hq4 | hq4
                    · rw [cond_of_true hq4]
                      rcases appendA_val e n (evC G x t) new k s with ⟨a', s', hap⟩ | hap
                      · rw [hap]
                        obtain ⟨news, hn1, hsrc⟩ := src_of (P := P) h hnew hy hk hq hq4
                        subst e2
                        obtain ⟨v', w', E', r1, r2, r3⟩ := append_ok h A (ty := o.type) hap hx hn1 hsrc hj hjk
                        exact .inl ⟨v', w', E', by simp [execOp, ho, resolve, invoke, builtin, r1], r2, r3⟩
                      · rw [hap]; trivial
                    · rw [cond_of_false hq4]; trivial
                  · trivial
                · rw [cond_of_false hq3]; trivial
              · trivial
            · rw [cond_of_false hq2]; trivial
  · rw [cond_of_false hq]; trivial
theorem copyC_ok (h : Rel E s w) (hG : GlobOk E G w) (ht : TR E t a) {x y : Operand} {ty tx : TypeId} (ho : o.op = .call { callee := .builtin .copy, args := #[x, y], argTypes := #[ty, tx] }) :
    OpOk P E s w o a (copyC P ty (evC G x) (evC G y) t s) := by
  have hx := evC_ok hG ht x
  have hy := evC_ok hG ht y
  generalize hv : a.eval x = v at hx
  generalize hu : a.eval y = u at hy
  unfold copyC
  cases he : sliceElemT P ty with
  | none => trivial
  | some e =>
    cases hs : sizeT P e with
    | none => simp only [hs]; trivial
    | some n =>
      simp only [hs]
      split
      · rename_i r off dl es tight k e1 e2
        rw [e1] at hx
        rcases Bool.eq_false_or_eq_true (n.beq es) with hb | hb
        · rw [cond_of_true hb]
          have := Nat.eq_of_beq_eq_true hb
          subst this
          cases hx with
          | sl hl h2 h3 h4 hsome =>
            rename_i b base cap ad
            -- how long the source is
            have hlen : (Builtin.lenOf u).run P w = .ok k w := by
              generalize hg : evC G y t = g at hy e2
              cases hy <;> simp [lenA] at e2
              · subst e2; rfl
              · subst e2; rfl
              · subst e2; simp [Builtin.lenOf]
            rcases Bool.eq_false_or_eq_true ((Nat.min k dl).beq 0) with hm | hm
            · rw [cond_of_true hm]
              have hm0 := Nat.eq_of_beq_eq_true hm
              have hform : (∃ ad2 len2 cap2, u = .slice ad2 len2 cap2) ∨ ∃ bs, u = .string bs := by
                generalize hg : evC G y t = g at hy e2
                cases hy <;> simp [lenA] at e2
                all_goals first | exact .inl ⟨_, _, _, rfl⟩ | exact .inr ⟨_, rfl⟩
              have hf : (Builtin.firstCells n 0 u).run P w = .ok #[] w := by
                rcases hform with ⟨ad2, len2, cap2, rfl⟩ | ⟨bs, rfl⟩
                · cases ad2 <;> simp [Builtin.firstCells, loadCells, loadCellsFrom]
                · simp [Builtin.firstCells]
              refine .ofVal h (v := .int .i64 0) ?_ (.int _ _)
              cases ad <;> simp [execOp, ho, hv, hu, resolve, invoke, builtin, Builtin.copy_, run_underlying (sliceElemT_und he), hlen, sizeT_run hs, hm0, hf, storeCells, goInt]
            · rw [cond_of_false hm]
              have hm0 : Nat.min k dl ≠ 0 := fun e => by rw [e] at hm; simp at hm
              split
              · rename_i new hnew
                rcases Bool.eq_false_or_eq_true (new.all AV.single) with hq4 | hq4
                · rw [cond_of_true hq4]
                  split
                  · rename_i s' hst
                    have hmin : Nat.min k dl ≤ dl := Nat.min_le_right _ _
                    obtain ⟨e5, e6⟩ := h4 (by omega)
                    subst e5
                    -- the cells
                    have hcells : ∃ news, VRL E new news ∧ (Builtin.firstCells n (Nat.min k dl) u).run P w = .ok news.toArray w := by
                      rcases elems_ok h hnew hy with ⟨ad2, len2, cap2, vs, a1, a2, a3, a4⟩ | ⟨bs, a1, a2⟩
                      · subst a1
                        refine ⟨vs, a2, ?_⟩
                        cases ad2 with
                        | none =>
                          have : vs = [] := by
                            cases vs with
                            | nil => rfl
                            | cons z zs => obtain ⟨_, _, a5, _⟩ := a4 (by simp); cases a5
                          subst this
                          simp [Builtin.firstCells]
                        | some ad2 =>
                          refine run_firstCells_some w n _ ad2 len2 cap2 vs a3 (fun j u hj => ?_)
                          have hp0 : 0 < vs.length := by cases vs with | nil => simp at hj | cons => simp
                          obtain ⟨b2, off2, a5, a6⟩ := a4 hp0
                          cases a5
                          rw [Addr.add_lit]; exact a6 j u hj
                      · subst a1
                        refine ⟨_, a2, ?_⟩
                        simp [Builtin.firstCells]
                        apply Array.ext'
                        simp
                    obtain ⟨news, n1, n2⟩ := hcells
                    obtain ⟨c, cty, g1, g2, g3⟩ := Step.store h hst n1 hl
                    have hrun := run_storeCells_at P b (base + off) cty news 0 c w g1 (by simpa using g2) (n1.single hq4)
                    simp only [Nat.add_zero] at hrun
                    refine .inl ⟨.int .i64 (Nat.min k dl : Nat), _, E, ?_, g3, .int _ _⟩
                    simp [execOp, ho, hv, hu, resolve, invoke, builtin, Builtin.copy_, run_underlying (sliceElemT_und he), hlen, sizeT_run hs, n2, hrun, goInt]
                  · trivial
                · rw [cond_of_false hq4]; trivial
              · trivial
        · rw [cond_of_false hb]; trivial
      · trivial
/-! ### maps -/
theorem keyT_und {kt : TypeId} {d : KK} (h : keyT P kt = some d) : (d = .str ∧ P.underlying kt = some .string) ∨ ∃ k, d = .int k ∧ P.underlying kt = some (.int k) := by
  unfold keyT at h
  split at h
  · rename_i e; cases h; exact .inl ⟨rfl, e⟩
  · rename_i k e; cases h; exact .inr ⟨k, rfl, e⟩
  · cases h
def KK.desc : KK → TypeDesc
  | .str => .string
  | .int k => .int k
theorem keyT_desc {kt : TypeId} {d : KK} (h : keyT P kt = some d) : P.underlying kt = some d.desc := by
  rcases keyT_und h with ⟨rfl, e⟩ | ⟨k, rfl, e⟩ <;> exact e
theorem isKey_ok {d : KK} {x : AV} (h : isKey d x = true) {v : Value} (hv : VR E x v) : IsKey d.desc v := by
  cases d with
  | str => cases hv <;> simp [isKey] at h; trivial
  | int k =>
    cases hv <;> simp [isKey] at h
    exact (kindEq_eq h).symm
theorem byteArray_beq (x y : ByteArray) : (x == y) = (x.toList == y.toList) := by
  have h : (x == y) = (x.data == y.data) := rfl
  rw [h, toList_eq_data, toList_eq_data, Bool.eq_iff_iff, beq_iff_eq, beq_iff_eq]
  exact Array.toList_inj.symm
theorem eqKey_ok {d : KK} {x y : AV} {b : Bool} (h : eqKey d x y = some b) {u v : Value} (hu : VR E x u) (hv : VR E y v) : Instr.sameNow d.desc u v = some b := by
  cases d with
  | str =>
    cases hu <;> cases hv <;> simp [eqKey] at h
    rw [← h, str_eq]
    simp only [KK.desc, Instr.sameNow, byteArray_beq]
  | int k =>
    cases hu <;> cases hv <;> simp [eqKey] at h
    rename_i k1 n1 k2 n2
    rcases Bool.eq_false_or_eq_true (kindEq k k1 && kindEq k k2) with hb | hb
    · rw [hb] at h
      simp only [cond_true, Option.some.injEq] at h
      rw [Bool.and_eq_true] at hb
      have e1 := kindEq_eq hb.1
      have e2 := kindEq_eq hb.2
      subst e1 e2
      simp [KK.desc, Instr.sameNow, ← h, eqI_eq]
    · rw [hb] at h; cases h
theorem findA_ok {d : KK} {x : AV} {v : Value} (hv : VR E x v) : ∀ {es : List (AV × AV)} {ents : List MapEntry} {r : Option AV}, VRL E (es.map (·.1)) (ents.map (·.key)) → VRL E (es.map (·.2)) (ents.map (·.val)) →
    findA d x es = some r → ∀ i, (r = none ∧ Instr.findNow d.desc v ents i = some none) ∨ ∃ y j u, r = some y ∧ Instr.findNow d.desc v ents i = some (some (i + j, u)) ∧ VR E y u ∧ j < ents.length
  | [], ents, r, h1, h2, h, i => by
    cases ents with
    | nil => simp [findA] at h; subst h; exact .inl ⟨rfl, rfl⟩
    | cons => cases h1
  | (k, y) :: es, ents, r, h1, h2, h, i => by
    cases ents with
    | nil => cases h1
    | cons e ents =>
      cases h1 with
      | cons a1 a2 =>
        cases h2 with
        | cons b1 b2 =>
          simp only [findA] at h
          split at h
          · rename_i b hb
            have hs := eqKey_ok hb hv a1
            cases b with
            | true =>
              simp only [cond_true, Option.some.injEq] at h
              subst h
              exact .inr ⟨y, 0, e.val, rfl, by simp [Instr.findNow, hs], b1, by simp⟩
            | false =>
              simp only [cond_false] at h
              rcases findA_ok hv a2 b2 h (i + 1) with ⟨c1, c2⟩ | ⟨y2, j, u, c1, c2, c3, c4⟩
              · exact .inl ⟨c1, by simp [Instr.findNow, hs, c2]⟩
              · exact .inr ⟨y2, j + 1, u, c1, by simp [Instr.findNow, hs, c2]; omega, c3, by simp; omega⟩
          · cases h
theorem lookupC_ok (h : Rel E s w) (hG : GlobOk E G w) (ht : TR E t a) {m k : Operand} {ty : TypeId} {ok : Bool} (ho : o.op = .lookup ty m k ok) :
    OpOk P E s w o a (lookupC P ty (evC G m) (evC G k) ok t s) := by
  have hm := evC_ok hG ht m
  have hk := evC_ok hG ht k
  generalize hmv : a.eval m = mv at hm
  generalize hkv : a.eval k = kv at hk
  cases hu : P.underlying ty with
  | none => simp only [lookupC, hu]; trivial
  | some dd =>
    cases dd with
    | map kt e =>
      cases hz : zeroT P e with
      | none => simp only [lookupC, hu, hz]; trivial
      | some z =>
        cases hd : keyT P kt with
        | none => simp only [lookupC, hu, hz, hd]; trivial
        | some d =>
          simp only [lookupC, hu, hz, hd]
          rcases Bool.eq_false_or_eq_true (isKey d (evC G k t)) with hq | hq
          · rw [cond_of_true hq]
            have hik := isKey_ok hq hk
            have hdesc := keyT_desc hd
            obtain ⟨z', z1, z2⟩ := zeroT_run hz w
            split
            · rename_i es hes
              -- the entries
              have hents : ∃ ents : Array MapEntry, VRL E (es.map (·.1)) (ents.toList.map (·.key)) ∧ VRL E (es.map (·.2)) (ents.toList.map (·.val)) ∧
                  ((mv = .map none ∧ ents = #[]) ∨ ∃ b clock, mv = .map (some b) ∧ w.heap[b]? = some (.map ents clock)) := by
                generalize hg : evC G m t = g at hm hes
                cases hm with
                | mpn => simp only [mapEs, Option.some.injEq] at hes; subst hes; exact ⟨#[], .nil, .nil, .inl ⟨rfl, rfl⟩⟩
                | mp hl =>
                  simp only [mapEs] at hes
                  split at hes
                  · rename_i es' he'
                    cases hes
                    obtain ⟨ents, clock, m1, m2, m3⟩ := h.mapo _ _ _ _ he' hl
                    exact ⟨ents, m2, m3, .inr ⟨_, clock, rfl, m1⟩⟩
                  · cases hes
                | _ => simp [mapEs] at hes
              obtain ⟨ents, x1, x2, x3⟩ := hents
              have hchk : ∀ em, (Instr.checkKey em 10000 kt kv).run P w = .ok () w := fun em => run_checkKey hdesc hik em 9999
              have fin : ∀ (r : Option (Nat × Value)), Instr.findNow d.desc kv ents.toList 0 = some r →
                  (Instr.lookup ty mv kv ok).run P w = .ok (if ok then .tuple #[(match r with | some (_, v) => v | none => z'), .bool r.isSome] else (match r with | some (_, v) => v | none => z')) w := by
                intro r hr
                have hfk := run_findKey (P := P) (w := w) hdesc hr
                rcases x3 with ⟨e1, e2⟩ | ⟨b, clock, e1, e2⟩
                · subst e1 e2
                  cases r with
                  | none => simp [Instr.lookup, run_underlying hu, hchk, hfk, z2]
                  | some p => simp [Instr.lookup, run_underlying hu, hchk, hfk]
                · subst e1
                  cases r with
                  | none => simp [Instr.lookup, run_underlying hu, getObj_map e2, hchk, hfk, z2]
                  | some p => simp [Instr.lookup, run_underlying hu, getObj_map e2, hchk, hfk]
              have hz1 := ofV_ok E z1
              split
              · rename_i y hy
                rcases findA_ok hk x1 x2 hy 0 with ⟨c1, _⟩ | ⟨y2, j, u, c1, c2, c3, _⟩
                · cases c1
                · cases c1
                  have := fin _ c2
                  cases ok with
                  | true => exact .ofVal h (v := .tuple #[u, .bool true]) (by simp [execOp, ho, hmv, hkv, this]) (.tup (.cons c3 (.cons (.bool _) .nil)))
                  | false => exact .ofVal h (v := u) (by simp [execOp, ho, hmv, hkv, this]) c3
              · rename_i hy
                rcases findA_ok hk x1 x2 hy 0 with ⟨_, c2⟩ | ⟨y2, j, u, c1, _⟩
                · have := fin _ c2
                  cases ok with
                  | true => exact .ofVal h (v := .tuple #[z', .bool false]) (by simp [execOp, ho, hmv, hkv, this]) (.tup (.cons hz1 (.cons (.bool _) .nil)))
                  | false => exact .ofVal h (v := z') (by simp [execOp, ho, hmv, hkv, this]) hz1
                · cases c1
              · trivial
            · trivial
          · rw [cond_of_false hq]; trivial
    | _ => simp only [lookupC, hu]; trivial
end
end Go.Am
end
section
namespace Go.Am
open Go.MapKept (IsKey run_checkKey run_findKey)
theorem Step.setMap {E : Env} {s : St} {w : World} (h : Rel E s w) {r b base : Nat} {es es' : List (AV × AV)} (hr : s.get r = some (.mapo es)) (hl : E.loc r = some (b, base))
    {ents ents' : Array MapEntry} {clock clock' : Nat} (hb : w.heap[b]? = some (.map ents clock)) (h1 : VRL E (es'.map (·.1)) (ents'.toList.map (·.key))) (h2 : VRL E (es'.map (·.2)) (ents'.toList.map (·.val))) :
    Step E s w E (s.set r (.mapo es')) { w with heap := w.heap.setIfInBounds b (.map ents' clock') } := by
  have hlt : b < w.heap.size := (h.lt r b base hl).2
  have hne : ∀ b2, b2 ≠ b → (w.heap.setIfInBounds b (.map ents' clock'))[b2]? = w.heap[b2]? := fun b2 hb2 => by rw [Array.getElem?_setIfInBounds_ne (fun e => hb2 e.symm)]
  have hrow : ∀ q o2, (s.set r (.mapo es')).get q = some (.row o2) → q ≠ r ∧ s.get q = some (.row o2) := by
    intro q o2 e
    by_cases hq : q = r
    · subst hq; rw [St.get_set_same] at e; cases e
    · rw [St.get_set_ne _ _ (fun e => hq e.symm)] at e; exact ⟨hq, e⟩
  have hroot : ∀ q o2, s.get q = some (.row o2) → (s.set r (.mapo es')).get o2.root = s.get o2.root := by
    intro q o2 e
    obtain ⟨q2, g1, _⟩ := h.wf.root q o2 e
    refine St.get_set_ne _ _ (fun e2 => ?_)
    rw [← e2, hr] at g1; cases g1
  have hval : ∀ q o2, s.get q = some (.row o2) → valid (s.set r (.mapo es')) o2 = valid s o2 := fun q o2 e => valid_congr (hroot q o2 e)
  have hold : ∀ q o2, s.get q = some (.row o2) → (s.set r (.mapo es')).get q = some (.row o2) := by
    intro q o2 e
    have hq : q ≠ r := fun e2 => by subst e2; rw [hr] at e; cases e
    rw [St.get_set_ne _ _ (fun e => hq e.symm)]; exact e
  have hrel : Rel E (s.set r (.mapo es')) { w with heap := w.heap.setIfInBounds b (.map ents' clock') } := by
    have hhid : ∀ n d, (s.set r (.mapo es')).get n = some (.hid d) ↔ s.get n = some (.hid d) := fun n d => by
      by_cases hn : n = r
      · subst hn; rw [St.get_set_same, hr]; constructor <;> intro e <;> cases e
      · rw [St.get_set_ne _ _ (fun e => hn e.symm)]
    refine ⟨⟨?_, ?_, ?_, fun q o2 e => h.wf.rle q o2 (hrow q o2 e).2⟩, ?_, ?_, ?_, h.zap, ?_, ?_, ?_, ?_, fun q o2 b2 base2 e el hq => h.b0 q o2 b2 base2 (hrow q o2 e).2 el hq,
      fun n d b2 e eb w1 hw => h.hid n d b2 ((hhid n d).1 e) eb w1 fun k hk => (hw k hk).trans (hne k fun e2 => (h.own n k hk).2.1 r base (by rw [e2]; exact hl)),
      fun n k hk => ⟨by simpa using (h.own n k hk).1, (h.own n k hk).2⟩, fun n b2 eb => ⟨(h.hlt n b2 eb).1, by obtain ⟨_, d, e⟩ := h.hlt n b2 eb; exact ⟨d, (hhid n d).2 e⟩⟩⟩
    · intro q hq
      have : q ≠ r := fun e => by subst e; have := h.wf.lt hr; simp at hq; omega
      rw [St.get_set_ne _ _ (fun e => this e.symm)]; exact h.wf.fresh q hq
    · intro q o2 e
      obtain ⟨_, e2⟩ := hrow q o2 e
      obtain ⟨q2, g1, g2, g3, g4⟩ := h.wf.root q o2 e2
      exact ⟨q2, by rw [hroot q o2 e2]; exact g1, g2, g3, fun hv => g4 (by rw [← hval q o2 e2]; exact hv)⟩
    · intro q o2 e hs
      obtain ⟨_, e2⟩ := hrow q o2 e
      obtain ⟨k1, k2⟩ := h.wf.solo q o2 e2 hs
      exact ⟨k1, fun r2 o3 e3 h3 => k2 r2 o3 (hrow r2 o3 e3).2 h3⟩
    · intro q b2 base2 e
      have := h.lt q b2 base2 e
      exact ⟨this.1, by simpa using this.2⟩
    · intro q p e
      by_cases hq : q = r
      · subst hq; exact ⟨_, St.get_set_same _ _ _⟩
      · rw [St.get_set_ne _ _ (fun e => hq e.symm)]; exact h.obj q p e
    · intro b2 i v e
      have : b2 ≠ b := fun e2 => by subst e2; exact h.zap b2 i v r base e hl
      exact (World.cell?_of_block (w := w) (hne b2 this)).trans (h.z b2 i v e)
    · intro q o2 b2 base2 e el
      obtain ⟨hq, e2⟩ := hrow q o2 e
      obtain ⟨c, ty, fz, g1, g2, g3, g4⟩ := h.row q o2 b2 base2 e2 el
      have : b2 ≠ b := fun e3 => by subst e3; rw [hb] at g1; cases g1
      exact ⟨c, ty, fz, (hne b2 this).trans g1, g2, g3, fun hv => g4 (by rw [← hval q o2 e2]; exact hv)⟩
    · intro q es2 b2 base2 e el
      by_cases hq : q = r
      · subst hq
        rw [St.get_set_same] at e; cases e
        rw [hl] at el; cases el
        exact ⟨ents', clock', by simp [hlt], h1, h2⟩
      · rw [St.get_set_ne _ _ (fun e => hq e.symm)] at e
        obtain ⟨ents2, clock2, g1, g2⟩ := h.mapo q es2 b2 base2 e el
        have : b2 ≠ b := by
          intro e3; subst e3
          rcases h.coh q r b2 base2 base el hl with h3 | ⟨o1, o2, k1, _⟩
          · exact hq h3
          · rw [e] at k1; cases k1
        exact ⟨ents2, clock2, (hne b2 this).trans g1, g2⟩
    · intro q x n b2 base2 e el
      have hq : q ≠ r := fun e2 => by subst e2; rw [St.get_set_same] at e; cases e
      rw [St.get_set_ne _ _ (fun e => hq e.symm)] at e
      exact h.iter q x n b2 base2 e el
    · intro r1 r2 b2 b1 b3 e1 e2
      rcases h.coh r1 r2 b2 b1 b3 e1 e2 with h3 | ⟨o1, o2, k1, k2, k3, k4⟩
      · exact .inl h3
      · exact .inr ⟨o1, o2, hold r1 o1 k1, hold r2 o2 k2, k3, k4⟩
  refine ⟨.refl E, fun _ _ => rfl, fun q _ base2 e => .inr ⟨q, base2, e⟩, hrel, ?_, Nat.le_refl _, ?_, rfl, rfl, rfl, by simp, fun _ _ e => .inl e, fun n d e => ⟨d, by
    rw [St.get_set_ne _ _ (fun e2 => by subst e2; rw [hr] at e; cases e)]; exact e⟩, fun _ _ _ e => .inl e⟩
  · intro q _ hn _ _
    exact St.get_set_ne _ _ (fun e => by subst e; rw [hl] at hn; cases hn)
  · intro b2 _ hno _
    exact hne b2 (fun e => by subst e; exact hno r base hl)
theorem Step.newMap {E : Env} {s : St} {w : World} (h : Rel E s w) : Step E s w (E.add s.next w.heap.size 0 0) (s.push (.mapo [])) (w.alloc (.map #[] 0)) := by
  have hn := h.loc_fresh
  have hfresh : ∀ r0 base0, E.loc r0 ≠ some (w.heap.size, base0) := fun r0 base0 e => by have := (h.lt r0 _ _ e).2; omega
  have hle : E.le (E.add s.next w.heap.size 0 0) := Env.add_le hn fun r0 base0 e => absurd e (hfresh r0 base0)
  have hold : ∀ b, b < w.heap.size → (w.alloc (.map #[] 0)).heap[b]? = w.heap[b]? := fun b hb => heap_alloc_old w _ b hb
  have h1 := h.push (.mapo []) (h.wf.push_other _ (by intro o; simp))
  refine ⟨hle, fun r hr => Env.add_ne (by omega), ?_, ?_, fun r hr _ _ _ => get_push_old hr, Nat.le_succ _, fun b hb _ _ => hold b hb, rfl, rfl, rfl, by simp, fun _ _ e => .inl e, fun n d e => ⟨d, by rw [get_push_old (h.wf.lt e)]; exact e⟩, fun _ _ _ e => .inl e⟩
  · intro r b base e
    rcases Env.add_loc e with ⟨_, h3⟩ | ⟨_, h3⟩
    · cases h3; exact .inl (Nat.le_refl _)
    · exact .inr ⟨r, base, h3⟩
  · refine ⟨h1.wf, ?_, ?_, ?_, ?_, ?_, ?_, ?_, ?_, ?_, fun n d b e eb w1 hw => h1.hid n d b e eb w1 fun k hk => (hw k hk).trans (hold k (h.own n k hk).1), fun n k hk => ?_, h1.hlt⟩
    rotate_right
    · obtain ⟨o1, o2, o3⟩ := h.own n k hk
      refine ⟨by simp; omega, fun q base e => ?_, o3⟩
      rcases Env.add_loc e with ⟨_, h3⟩ | ⟨_, h3⟩
      · cases h3; omega
      · exact o2 q base h3
    · intro q b base e
      rcases Env.add_loc e with ⟨rfl, h3⟩ | ⟨_, h3⟩
      · cases h3; exact ⟨Nat.lt_succ_self _, by simp⟩
      · have := h.lt q b base h3
        exact ⟨Nat.lt_succ_of_lt this.1, by simp; omega⟩
    · intro q p e
      rcases Env.add_loc e with ⟨rfl, _⟩ | ⟨_, h3⟩
      · exact ⟨_, get_push_new⟩
      · exact h1.obj q p h3
    · intro b i v e
      have h3 := h.z b i v e
      exact (World.cell?_of_block (hold b (World.block_lt_of_cell? w _ h3))).trans h3
    · intro b i v q base e e2
      rcases Env.add_loc e2 with ⟨_, h3⟩ | ⟨_, h3⟩
      · cases h3
        have := World.block_lt_of_cell? w _ (h.z _ i v e)
        simp at this
      · exact h.zap b i v q base e h3
    · intro q o b base e el
      rcases Env.add_loc el with ⟨rfl, h3⟩ | ⟨hq, h3⟩
      · rw [get_push_new] at e; cases e
      · obtain ⟨c', ty', fz, g1, g2, g3, g4⟩ := h1.row q o b base e h3
        refine ⟨c', ty', fz, by rw [hold b (h.lt q b base h3).2]; exact g1, ?_, g3, fun hv' => ?_⟩
        · rw [hle.bsz q b base h3]; exact g2
        · obtain ⟨hz, vs', k1, k2⟩ := g4 hv'
          exact ⟨hz, vs', VRL.mono hle k1, k2⟩
    · intro q es b base e el
      rcases Env.add_loc el with ⟨rfl, h3⟩ | ⟨hq, h3⟩
      · cases h3
        rw [get_push_new] at e
        cases e
        exact ⟨#[], 0, heap_alloc_new w _, .nil, .nil⟩
      · obtain ⟨ents, clock, g1, g2, g3⟩ := h1.mapo q es b base e h3
        exact ⟨ents, clock, by rw [hold b (h.lt q b base h3).2]; exact g1, VRL.mono hle g2, VRL.mono hle g3⟩
    · intro q x n b base e el
      rcases Env.add_loc el with ⟨rfl, h3⟩ | ⟨hq, h3⟩
      · rw [get_push_new] at e; cases e
      · exact h1.iter q x n b base e h3
    · intro r1 r2 b b1 b2 e1 e2
      rcases Env.add_loc e1 with ⟨rfl, h3⟩ | ⟨hq1, h3⟩ <;> rcases Env.add_loc e2 with ⟨rfl, h4⟩ | ⟨hq2, h4⟩
      · exact .inl rfl
      · cases h3; exact absurd h4 (hfresh r2 b2)
      · cases h4; exact absurd h3 (hfresh r1 b1)
      · exact h1.coh r1 r2 b b1 b2 h3 h4
    · intro q o b base e el hq
      rcases Env.add_loc el with ⟨h2, _⟩ | ⟨_, h3⟩
      · subst h2; rw [get_push_new] at e; cases e
      · exact h1.b0 q o b base e h3 hq
section
variable {P : Program} {G : Glob} {E : Env} {s : St} {w : World} {t : T} {a : Act} {o : Oper}
theorem eqKey_isKey {d : KK} {x y : AV} {b : Bool} (h : eqKey d x y = some b) : isKey d x = true ∧ isKey d y = true := by
  cases d with
  | str => cases x <;> cases y <;> simp [eqKey] at h; exact ⟨rfl, rfl⟩
  | int k =>
    cases x <;> cases y <;> simp [eqKey] at h
    rename_i k1 n1 k2 n2
    rcases Bool.eq_false_or_eq_true (kindEq k k1 && kindEq k k2) with hb | hb
    · rw [Bool.and_eq_true] at hb; exact hb
    · rw [hb] at h; cases h
theorem putA_ok {d : KK} {x y : AV} {v u : Value} (hv : VR E x v) (hu : VR E y u) (c : Nat) : ∀ {es es' : List (AV × AV)} {ents : List MapEntry}, VRL E (es.map (·.1)) (ents.map (·.key)) → VRL E (es.map (·.2)) (ents.map (·.val)) →
    putA d x y es = some es' → ∀ i,
      (Instr.findNow d.desc v ents i = some none ∧ VRL E (es'.map (·.1)) ((ents ++ [({ key := v, val := u, born := c } : MapEntry)]).map (·.key)) ∧ VRL E (es'.map (·.2)) ((ents ++ [({ key := v, val := u, born := c } : MapEntry)]).map (·.val))) ∨
      ∃ j e, Instr.findNow d.desc v ents i = some (some (i + j, e.val)) ∧ ents[j]? = some e ∧ e.key = v ∧
        VRL E (es'.map (·.1)) ((ents.modify j fun (e : MapEntry) => ({ e with key := v, val := u } : MapEntry)).map (·.key)) ∧ VRL E (es'.map (·.2)) ((ents.modify j fun (e : MapEntry) => ({ e with key := v, val := u } : MapEntry)).map (·.val))
  | [], es', ents, h1, h2, h, i => by
    cases ents with
    | nil => simp only [putA, Option.some.injEq] at h; subst h; exact .inl ⟨rfl, .cons hv .nil, .cons hu .nil⟩
    | cons => cases h1
  | (k, z) :: es, es', ents, h1, h2, h, i => by
    cases ents with
    | nil => cases h1
    | cons e ents =>
      cases h1 with
      | cons a1 a2 =>
        cases h2 with
        | cons b1 b2 =>
          simp only [putA] at h
          split at h
          · rename_i b hb
            have hs := eqKey_ok hb hv a1
            have hk := eqKey_isKey hb
            cases b with
            | true =>
              simp only [cond_true, Option.some.injEq] at h
              subst h
              obtain ⟨q, q1, q2⟩ := MapKept.sameNow_of_keys (isKey_ok hk.1 hv) (isKey_ok hk.2 a1)
              rw [hs] at q1; cases q1
              exact .inr ⟨0, e, by simp [Instr.findNow, hs], rfl, (q2.1 rfl).symm, .cons hv a2, .cons hu b2⟩
            | false =>
              simp only [cond_false] at h
              split at h
              · rename_i q hq
                cases h
                rcases putA_ok hv hu c a2 b2 hq (i + 1) with ⟨c1, c2, c3⟩ | ⟨j, e2, c1, c2, c3, c4, c5⟩
                · exact .inl ⟨by simp [Instr.findNow, hs, c1], .cons a1 c2, .cons b1 c3⟩
                · exact .inr ⟨j + 1, e2, by simp [Instr.findNow, hs, c1]; omega, by simpa using c2, c3, .cons a1 c4, .cons b1 c5⟩
              · cases h
          · cases h
theorem mapUpdateC_ok (h : Rel E s w) (hG : GlobOk E G w) (ht : TR E t a) {m k x : Operand} {ty : TypeId} (ho : o.op = .mapUpdate ty m k x) :
    OpOk P E s w o a (mapUpdateC P ty (evC G m) (evC G k) (evC G x) t s) := by
  have hm := evC_ok hG ht m
  have hk := evC_ok hG ht k
  have hx := evC_ok hG ht x
  generalize hmv : a.eval m = mv at hm
  generalize hkv : a.eval k = kv at hk
  generalize hxv : a.eval x = xv at hx
  cases hu : P.underlying ty with
  | none => simp only [mapUpdateC, hu]; trivial
  | some dd =>
    cases dd with
    | map kt e =>
      cases hd : keyT P kt with
      | none => simp only [mapUpdateC, hu, hd]; trivial
      | some d =>
        simp only [mapUpdateC, hu, hd]
        rcases Bool.eq_false_or_eq_true (isKey d (evC G k t)) with hq | hq
        · rw [cond_of_true hq]
          have hik := isKey_ok hq hk
          have hdesc := keyT_desc hd
          generalize hg : evC G m t = g at hm
          cases hm with
          | mp hl =>
            rename_i r b
            simp only
            split
            · rename_i es hes
              split
              · rename_i es' hes'
                obtain ⟨ents, clock, m1, m2, m3⟩ := h.mapo _ _ _ _ hes hl
                rcases putA_ok hk hx clock m2 m3 hes' 0 with ⟨c1, c2, c3⟩ | ⟨j, e2, c1, c2, c3, c4, c5⟩
                · refine ⟨_, E, ?_, Step.setMap h hes hl m1 (ents' := ents.push { key := kv, val := xv, born := clock }) (clock' := clock + 1) (by simpa using c2) (by simpa using c3)⟩
                  simp [execOp, ho, hmv, hkv, hxv, Instr.mapUpdate, run_underlying hu, MapKept.run_getObj_map m1, run_checkKey hdesc hik false 9999, run_findKey hdesc c1, MapKept.run_setObj_map _ m1, Result.andThen]
                · have hj : ents[j]? = some e2 := by simpa using c2
                  refine ⟨_, E, ?_, Step.setMap h hes hl m1 (ents' := ents.modify j fun (e : MapEntry) => { e with key := kv, val := xv }) (clock' := clock) (by simpa using c4) (by simpa using c5)⟩
                  simp only [Nat.zero_add] at c1
                  simp [execOp, ho, hmv, hkv, hxv, Instr.mapUpdate, run_underlying hu, MapKept.run_getObj_map m1, run_checkKey hdesc hik false 9999, run_findKey hdesc c1, hj, c3, MapKept.run_keyThatStays hik, MapKept.run_setObj_map _ m1, Result.andThen]
              · trivial
            · trivial
          | _ => trivial
        · rw [cond_of_false hq]; trivial
    | _ => simp only [mapUpdateC, hu]; trivial
theorem makeMapC_ok (h : Rel E s w) {ty : TypeId} (ho : o.op = .makeMap ty none) : OpOk P E s w o a (.val (.mp (some s.next)) (s.push (.mapo []))) :=
  .inl ⟨.map (some w.heap.size), w.alloc (.map #[] 0), E.add s.next w.heap.size 0 0, by simp [execOp, ho, Instr.makeMap, Result.andThen], Step.newMap h, .mp (by simp [Env.add])⟩
theorem makeFuncC_ok (h : Rel E s w) (hG : GlobOk E G w) (ht : TR E t a) {f : Fn} {x y : Array Operand} (ho : o.op = .makeFunc f x y) :
    OpOk P E s w o a (.val (.fn f (evL G x.toList t) (evL G y.toList t)) s) := by
  refine .ofVal h (v := .func f ⟨x.toList.map a.eval⟩ ⟨y.toList.map a.eval⟩) ?_ (.fn (evL_ok hG ht _) (evL_ok hG ht _))
  have e1 : (⟨x.toList.map a.eval⟩ : Array Value) = x.map a.eval := by apply Array.ext'; simp
  have e2 : (⟨y.toList.map a.eval⟩ : Array Value) = y.map a.eval := by apply Array.ext'; simp
  rw [e1, e2]
  simp [execOp, ho, Instr.makeFunc]
theorem binC_ok (h : Rel E s w) (hG : GlobOk E G w) (ht : TR E t a) {op : BinOp} {ty yt : TypeId} {x y : Operand} (ho : o.op = .binOp op ty x y yt) :
    OpOk P E s w o a (binC P G o op ty (evC G x) (evC G y) t s) := by
  have hx := evC_ok hG ht x
  have hy := evC_ok hG ht y
  unfold binC
  cases hi : intOp op with
  | none =>
    cases hs : strOp op <;> exact plainC_ok h hG ht (by intro cs b; rw [ho]; simp)
  | some f =>
    cases hs : strOp op with
    | none => exact binInt_ok h hG ht ho hi
    | some g =>
      simp only
      split
      · rename_i u v e1 e2
        rw [e1] at hx
        rw [e2] at hy
        generalize hu : a.eval x = u' at hx
        generalize hv : a.eval y = v' at hy
        cases hx with
        | str m =>
        cases hy with
        | str n =>
        obtain ⟨r, h1, h2⟩ := strOp_run (P := P) (E := E) (w := w) hs ty m n
        rcases h2 with h2 | h2
        · generalize g _ _ = z at h1
          unfold defO
          split
          · trivial
          · exact .ofVal h (run_binOp ho hu hv (eqGuard_str _ _ _ _ _ _) h2) h1
        · rw [h2]; trivial
      · exact binInt_ok h hG ht ho hi
end
end Go.Am
end
section
namespace Go.Am
theorem freeze_heap_ne (w : World) (a : Addr) (n k : Nat) (h : k ≠ a.block) : (w.freeze a n).heap[k]? = w.heap[k]? := by
  unfold World.freeze
  split
  · rfl
  · simp only [Array.getElem?_modify]; rw [if_neg (by omega)]
theorem freeze_heap (w : World) (a : Addr) (n : Nat) {c : Array Value} {ty : TypeId} {fz : Nat × Nat} (h : w.heap[a.block]? = some (.cells c ty fz)) : ∃ fz', (w.freeze a n).heap[a.block]? = some (.cells c ty fz') := by
  unfold World.freeze
  split
  · exact ⟨fz, h⟩
  · simp only [Array.getElem?_modify, if_pos, h]; exact ⟨_, rfl⟩
theorem freeze_size (w : World) (a : Addr) (n : Nat) : (w.freeze a n).heap.size = w.heap.size := by unfold World.freeze; split <;> simp
theorem Rel.freeze {E : Env} {s : St} {w : World} (h : Rel E s w) {a : Addr} (n : Nat) {c : Array Value} {ty : TypeId} {fz : Nat × Nat} (hb : w.heap[a.block]? = some (.cells c ty fz))
    (hm : ∃ r base, E.loc r = some (a.block, base)) (hv : ∀ q o base, s.get q = some (.row o) → E.loc q = some (a.block, base) → valid s o = false) : Rel E s (w.freeze a n) where
  wf := h.wf
  lt r b base e := by rw [freeze_size]; exact h.lt r b base e
  obj := h.obj
  z b o v e := by
    obtain ⟨r, base, hr⟩ := hm
    have hne : b ≠ a.block := fun e2 => by subst e2; exact h.zap _ o v r base e hr
    exact (World.cell?_of_block (freeze_heap_ne w a n b hne)).trans (h.z b o v e)
  zap := h.zap
  row r o b base e el := by
    obtain ⟨c2, ty2, fz2, g1, g2, g3, g4⟩ := h.row r o b base e el
    by_cases hne : b = a.block
    · subst hne
      rw [hb] at g1; cases g1
      obtain ⟨fz', hf⟩ := freeze_heap w a n hb
      exact ⟨c, ty, fz', hf, g2, g3, fun hv2 => by rw [hv r o base e el] at hv2; cases hv2⟩
    · exact ⟨c2, ty2, fz2, by rw [freeze_heap_ne w a n b hne]; exact g1, g2, g3, g4⟩
  mapo r es b base e el := by
    obtain ⟨ents, clock, g1, g2⟩ := h.mapo r es b base e el
    have hne : b ≠ a.block := fun e2 => by subst e2; rw [hb] at g1; cases g1
    exact ⟨ents, clock, by rw [freeze_heap_ne w a n b hne]; exact g1, g2⟩
  iter := h.iter
  coh := h.coh
  b0 := h.b0
  hid n' d b e eb w1 hw := h.hid n' d b e eb w1 fun k hk => (hw k hk).trans (freeze_heap_ne w a n k fun e2 => by
    obtain ⟨r, base, hr⟩ := hm
    exact (h.own n' k hk).2.1 r base (by rw [e2]; exact hr))
  own := by rw [freeze_size]; exact h.own
  hlt := h.hlt
theorem retire_alike {s s' : St} {o : Row} (hw : Wf s) {r : Nat} (hr : s.get r = some (.row o)) (h : retire s o = some s') :
    Alike s s' ∧ (∀ q o2, s'.get q = some (.row o2) → o2.root = o.root → valid s' o2 = false) ∧
      (∀ q o2, s'.get q = some (.row o2) → o2.root ≠ o.root → s.get q = some (.row o2) ∧ valid s o2 = valid s' o2) ∧ (∀ q, q ≠ o.root → s'.get q = s.get q) := by
  obtain ⟨q0, hq0, hroot0, _, _⟩ := hw.root r o hr
  unfold retire at h
  rw [hq0] at h
  simp only [Option.some.injEq] at h
  subst h
  have hget : ∀ q, q ≠ o.root → (s.set o.root (.row { q0 with solo := false, fep := q0.fep + 1 })).get q = s.get q := fun q hq => St.get_set_ne _ _ (Ne.symm hq)
  have hself := St.get_set_same s o.root (.row { q0 with solo := false, fep := q0.fep + 1 })
  have hrow : ∀ q o2, (s.set o.root (.row { q0 with solo := false, fep := q0.fep + 1 })).get q = some (.row o2) → ∃ o3, s.get q = some (.row o3) ∧ o2.root = o3.root ∧ o2.pos = o3.pos ∧ o2.vals = o3.vals ∧ o2.ep = o3.ep ∧ o2.ty = o3.ty ∧ (q ≠ o.root → o2 = o3) ∧ (q = o.root → o2.solo = false) := by
    intro q o2 e
    by_cases hq : q = o.root
    · subst hq
      rw [hself] at e; cases e
      exact ⟨q0, hq0, rfl, rfl, rfl, rfl, rfl, fun h => absurd rfl h, fun _ => rfl⟩
    · rw [hget q hq] at e
      exact ⟨o2, e, rfl, rfl, rfl, rfl, rfl, fun _ => rfl, fun h => absurd h hq⟩
  have hsolo : ∀ q o2, (s.set o.root (.row { q0 with solo := false, fep := q0.fep + 1 })).get q = some (.row o2) → o2.root = o.root → o2.solo = false := by
    intro q o2 e er
    obtain ⟨o3, e3, a1, _, _, _, _, a6, a7⟩ := hrow q o2 e
    by_cases hq : q = o.root
    · exact a7 hq
    · have := a6 hq
      subst this
      cases hs : o2.solo with
      | false => rfl
      | true => exact absurd ((hw.solo q o2 e3 hs).1.symm.trans er) hq
  have hinv : ∀ q o2, (s.set o.root (.row { q0 with solo := false, fep := q0.fep + 1 })).get q = some (.row o2) → o2.root = o.root → valid (s.set o.root (.row { q0 with solo := false, fep := q0.fep + 1 })) o2 = false := by
    intro q o2 e er
    obtain ⟨o3, e3, a1, _, _, a4, _, _, _⟩ := hrow q o2 e
    rw [valid_multi (hsolo q o2 e er) (by rw [er]; exact hself)]
    obtain ⟨q2, b1, _, b3, _⟩ := hw.root q o3 e3
    rw [a1.symm.trans er, hq0] at b1; cases b1
    exact beq_false_of_ne (by show o2.ep ≠ q0.fep + 1; omega)
  have hout : ∀ q o2, (s.set o.root (.row { q0 with solo := false, fep := q0.fep + 1 })).get q = some (.row o2) → o2.root ≠ o.root → s.get q = some (.row o2) ∧ valid s o2 = valid (s.set o.root (.row { q0 with solo := false, fep := q0.fep + 1 })) o2 := by
    intro q o2 e er
    have hq : q ≠ o.root := fun hq => by
      obtain ⟨o3, e3, a1, _⟩ := hrow q o2 e
      subst hq
      rw [hq0] at e3; cases e3
      exact er (a1.trans hroot0)
    rw [hget q hq] at e
    exact ⟨e, (valid_congr (hget _ er)).symm⟩
  refine ⟨⟨rfl, ⟨?_, ?_, ?_, fun q o2 e => by obtain ⟨o3, e3, a1, _⟩ := hrow q o2 e; rw [a1]; exact hw.rle q o3 e3⟩, ?_, ?_, ?_, ?_⟩, hinv, hout, hget⟩
  · intro q hq
    have hlt := hw.lt hq0
    have hq : s.next ≤ q := hq
    rw [hget q (by omega)]
    exact hw.fresh q hq
  · intro q o2 e
    obtain ⟨o3, e3, a1, a2, a3, a4, _, _, _⟩ := hrow q o2 e
    obtain ⟨q2, b1, b2, b3, b4⟩ := hw.root q o3 e3
    by_cases er : o2.root = o.root
    · have e1 := a1.symm.trans er
      rw [e1, hq0] at b1; cases b1
      rw [er]
      refine ⟨_, hself, hroot0, by show o2.ep ≤ q0.fep + 1; omega, fun hv => ?_⟩
      rw [hinv q o2 e er] at hv; cases hv
    · obtain ⟨e4, hv4⟩ := hout q o2 e er
      rw [e3] at e4; cases e4
      exact ⟨q2, by rw [hget _ er]; exact b1, b2, b3, fun hv => b4 (by rw [hv4]; exact hv)⟩
  · intro q o2 e hs
    have er : o2.root ≠ o.root := fun er => by rw [hsolo q o2 e er] at hs; cases hs
    obtain ⟨e4, _⟩ := hout q o2 e er
    obtain ⟨m1, m2⟩ := hw.solo q o2 e4 hs
    refine ⟨m1, fun r2 o4 e5 h5 => ?_⟩
    obtain ⟨o5, e6, a1, _⟩ := hrow r2 o4 e5
    exact m2 r2 o5 e6 (a1.symm.trans h5)
  · intro q o2 e
    obtain ⟨o3, e3, a1, a2, a3, _⟩ := hrow q o2 e
    exact ⟨o3, e3, a1, a2, by rw [a3]⟩
  · intro q o2 o4 e e4
    obtain ⟨o3, e3, _, _, _, _, a5, _⟩ := hrow q o2 e
    rw [e3] at e4; cases e4
    exact a5
  · intro q x hx e
    by_cases hq : q = o.root
    · subst hq; rw [hself] at e; cases e; exact absurd rfl (hx _)
    · rw [hget q hq] at e; exact e
  · intro q x e
    by_cases hq : q = o.root
    · subst hq; exact ⟨_, hself⟩
    · exact ⟨x, by rw [hget q hq]; exact e⟩
theorem Step.closed {E : Env} {s s' : St} {w : World} (h : Rel E s w) {r : Nat} {o : Row} (ho : rowAt s r = some o) (hs : retire s o = some s') {b base : Nat} (hl : E.loc r = some (b, base)) (off n : Nat) :
    Step E s w E s' (w.freeze ⟨b, off, none⟩ n) := by
  obtain ⟨ho1, ho2⟩ := rowAt_eq ho
  obtain ⟨c, ty, fz, g1, g2, g3, g4⟩ := h.row r o b base ho1 hl
  obtain ⟨⟨hz, hty⟩, _⟩ := g4 ho2
  subst hz
  obtain ⟨hal, hinv, hout, hget⟩ := retire_alike h.wf ho1 hs
  have hfam : ∀ q o2 base2, s'.get q = some (.row o2) → E.loc q = some (b, base2) → o2.root = o.root := by
    intro q o2 base2 e el
    obtain ⟨o3, e3, a1, _⟩ := hal.row q o2 e
    rcases h.coh q r b base2 base el hl with h1 | ⟨o1, o4, m1, m2, m3, _⟩
    · subst h1; rw [ho1] at e3; cases e3; exact a1
    · rw [e3] at m1; cases m1
      rw [ho1] at m2; cases m2
      exact a1.trans m3
  have hrel : Rel E s' w := by
    have := h.block hal g1 ⟨r, base, hl⟩ c rfl (fun q o2 base2 e el hv => by rw [hinv q o2 e (hfam q o2 base2 e el)] at hv; cases hv) (fun q o2' b2 base2 e el hne hv => by
      have er : o2'.root ≠ o.root := fun er => by rw [hinv q o2' e er] at hv; cases hv
      obtain ⟨e4, hv4⟩ := hout q o2' e er
      exact ⟨o2', e4, by rw [hv4]; exact hv, rfl⟩)
    rwa [setRow_same w b c ty (0, 0) g1] at this
  have hrel2 := hrel.freeze (a := ⟨b, off, none⟩) n g1 ⟨r, base, hl⟩ (fun q o2 base2 e el => hinv q o2 e (hfam q o2 base2 e el))
  refine ⟨.refl E, fun _ _ => rfl, fun q b2 base2 e => .inr ⟨q, base2, e⟩, hrel2, fun q hq hn hso _ => ?_, by rw [hal.next]; exact Nat.le_refl _, fun b2 hb2 hn _ => freeze_heap_ne w _ n b2 (fun e => hn r base (by rw [e]; exact hl)), ?_, ?_, ?_, by rw [freeze_size]; exact Nat.le_refl _, fun _ _ e => .inl e, fun n d e => ⟨d, hal.hid e⟩, fun _ _ _ e => .inl e⟩
  · refine hget q fun e => ?_
    obtain ⟨q0, hq0, m1, _⟩ := h.wf.root r o ho1
    have := hso q0 (by rw [e]; exact hq0)
    obtain ⟨_, m2⟩ := h.wf.solo o.root q0 hq0 this
    have : r = o.root := m2 r o ho1 rfl
    rw [e, ← this, hl] at hn; cases hn
  all_goals unfold World.freeze; split <;> rfl
section
variable {P : Program} {G : Glob} {E : Env} {s : St} {w : World} {t : T} {a : Act} {o : Oper}
theorem liesAt_bytes_off {e : TypeId} (hc : P.cellsOf e = 1) (count off n : Nat) (hn : off + n ≤ count) : liesAt P P.depth e count off e n = true := by
  have hd : P.depth = (2 * (P.types.size + Made.depth) + 1) + 1 := rfl
  rw [hd]
  simp only [liesAt, Bool.or_eq_true]
  left
  rw [hd]
  simp [Go.rowAt, hc, hn, sameLayout, Nat.mod_one]
theorem run_unsafeString_off (pt it ty e : TypeId) (hp : P.underlying pt = some (.pointer e)) (hc : P.cellsOf e = 1) (g off cells : Nat) (hsh : w.shape? g = some (e, cells)) (l : List UInt8) (h0 : l ≠ []) (hn : off + l.length ≤ cells) (h63 : l.length ≤ 9223372036854775807)
    (hcell : ∀ j x, l[j]? = some x → w.cell? ((⟨g, off, none⟩ : Addr).add j) = some (.int .u8 x.toNat)) :
    (Builtin.unsafeString_ #[pt, it] ty #[.pointer (some ⟨g, off, none⟩), .int .i64 l.length]).run P w = .ok (.string ⟨l.toArray⟩) (w.freeze ⟨g, off, none⟩ l.length) := by
  have hl : l.length ≠ 0 := by simpa using h0
  have hlb := Lib.run_loadBytes (P := P) w l ⟨g, off, none⟩ .empty hcell
  have hlies := liesAt_bytes_off (P := P) hc (cells / P.cellsOf e) off l.length (by rw [hc]; simpa using hn)
  have h63' : ¬ (9223372036854775807 : Int) < (l.length : Int) := by omega
  have hdef : Builtin.unsafeString_ #[pt, it] ty #[.pointer (some ⟨g, off, none⟩), .int .i64 l.length] =
      (do
        let n ← asInt (.int .i64 l.length)
        if n < 0 then runtimePanic (.error "unsafe.String: len out of range")
        if n > IntKind.i64.max then unsupported (.unsafePointer "String: a length above the largest int")
        if n = 0 then pure (.string .empty)
        else if ← variablesAt ⟨g, off, none⟩ (← elemOf pt) n.toNat then do
          let s ← loadBytes ⟨g, off, none⟩ .empty n.toNat
          freeze ⟨g, off, none⟩ n.toNat
          pure (.string s)
        else unsupported (.unsafePointer "String: not so many bytes at ptr")) := rfl
  rw [hdef]
  have hmax : IntKind.i64.max = 9223372036854775807 := rfl
  have hneg : ¬ (l.length : Int) < 0 := by omega
  simp [asInt, asIntOf, hmax, h63', hneg, hl, variablesAt, hsh, elemOf, run_underlying hp, hlies, hlb]
theorem unsafeStringC_ok (h : Rel E s w) (hG : GlobOk E G w) (ht : TR E t a) {x n : Operand} {pt it : TypeId} (ho : o.op = .call { callee := .builtin .unsafeString, args := #[x, n], argTypes := #[pt, it] }) :
    OpOk P E s w o a (unsafeStringC P pt (evC G x) (evC G n) t s) := by
  have hx := evC_ok hG ht x
  have hn := evC_ok hG ht n
  generalize hv : a.eval x = v at hx
  generalize hm : a.eval n = m at hn
  suffices key : ∀ F, unsafeStringC P pt (evC G x) (evC G n) = F → OpOk P E s w o a (F t s) from key _ rfl
  intro F hF
  unfold unsafeStringC at hF
  split at hF
  rotate_left
  · subst hF; trivial
  rename_i e hp
  split at hF
  rotate_left
  · subst hF; trivial
  rename_i hsz
  subst hF
  simp only
  split
  · rename_i e1 e2
    rw [e1] at hn; rw [e2] at hx
    cases hn; cases hx
    exact .ofVal h (v := .string .empty) (by simp [execOp, ho, resolve, invoke, builtin, hv, hm, Lib.run_unsafeString_none]) (.str .empty)
  · rename_i r off e1 e2
    rw [e1] at hn; rw [e2] at hx
    cases hn; cases hx
    exact .ofVal h (v := .string .empty) (by simp [execOp, ho, resolve, invoke, builtin, hv, hm, Lib.run_unsafeString_none]) (.str .empty)
  · rename_i k r off e1 e2
    rw [e1] at hn; rw [e2] at hx
    cases hn
    split
    · rename_i q hq
      rcases Bool.eq_false_or_eq_true (q.ty.beq e && Nat.ble (k + 1) 9223372036854775807) with hb | hb
      · rw [cond_of_true hb]
        simp only [Bool.and_eq_true] at hb
        have hty := Nat.eq_of_beq_eq_true hb.1
        have h63 := Nat.le_of_ble_eq_true hb.2
        split
        · rename_i cs hcs
          split
          · rename_i l hl
            split
            · rename_i s' hs'
              cases hx with
              | ptr off hloc =>
                rename_i b base
                obtain ⟨q1, q2⟩ := rowAt_eq hq
                obtain ⟨c, ty, fz, g1, g2, g3, g4⟩ := h.row r q b base q1 hloc
                obtain ⟨⟨g5, g6⟩, vs, k1, k2⟩ := g4 q2
                obtain ⟨iu, i1, i2⟩ := sizeT_info hsz
                have hcells : P.cellsOf e = 1 := by simp [Program.cellsOf, i1, i2]
                obtain ⟨c1, c2⟩ := takeN_eq hcs
                have hlen : cs.length = k + 1 := cutN_len hcs
                have hvs : VRL E cs ((vs.drop off).take (k + 1)) := by rw [c1]; exact (k1.drop off).take _
                obtain ⟨hby, hlt⟩ := bytesOf_ok hl hvs
                have hll : l.length = k + 1 := by
                  have := congrArg List.length hby
                  rw [← hvs.length, hlen, List.length_map] at this
                  exact this.symm
                have hmap : (l.map UInt8.ofNat).length = k + 1 := by simpa using hll
                have hfit : base + off + (k + 1) ≤ c.size := by
                  simp only [List.length_drop] at c2
                  omega
                have hrun := run_unsafeString_off (P := P) (w := w) pt it o.type e hp hcells b (base + off) c.size (by simp [World.shape?, g1, g6, hty]) (l.map UInt8.ofNat) (fun e3 => by rw [e3] at hmap; simp at hmap) (by rw [hmap]; exact hfit) (by rw [hmap]; exact h63) (by
                  intro j y hy
                  rw [Addr.add_lit]
                  simp only [List.getElem?_map, Option.map_eq_some_iff] at hy
                  obtain ⟨nn, hnn, rfl⟩ := hy
                  have hj : ((vs.drop off).take (k + 1))[j]? = some (.int .u8 (nn : Int)) := by rw [hby]; simp [hnn]
                  rw [List.getElem?_take] at hj
                  split at hj
                  · rw [List.getElem?_drop] at hj
                    have := k2 _ _ hj
                    have hn2 := hlt nn (List.mem_of_getElem? hnn)
                    rw [World.cell?, g1]
                    simp only [Nat.add_assoc]
                    rw [this]
                    simp [UInt8.toNat_ofNat', Nat.mod_eq_of_lt hn2]
                  · cases hj)
                rw [hmap] at hrun
                have hm' : a.eval n = .int .i64 ((k + 1 : Nat) : Int) := hm
                obtain ⟨i, hi⟩ : ∃ i : Int, i = ((k + 1 : Nat) : Int) := ⟨_, rfl⟩
                rw [← hi] at hrun hm'
                refine .inl ⟨.string ⟨(l.map UInt8.ofNat).toArray⟩, _, E, ?_, Step.closed h hq hs' hloc (base + off) (k + 1), ?_⟩
                · simp [execOp, ho, resolve, invoke, builtin, hv, hm', hrun]
                · have : VR E (.str (((⟨(l.map UInt8.ofNat).toArray⟩ : ByteArray)).data.toList.map (·.toNat))) (.string ⟨(l.map UInt8.ofNat).toArray⟩) := .str _
                  have e4 : ((⟨(l.map UInt8.ofNat).toArray⟩ : ByteArray)).data.toList.map (·.toNat) = l := by
                    show (l.map UInt8.ofNat).map (·.toNat) = l
                    rw [List.map_map]
                    refine (List.map_congr_left fun y hy => ?_).trans (List.map_id l)
                    simp [UInt8.toNat_ofNat', Nat.mod_eq_of_lt (hlt y hy)]
                  rw [e4] at this
                  exact this
            · trivial
          · trivial
        · trivial
      · rw [cond_of_false hb]; trivial
    · trivial
  · trivial
end
end Go.Am
end
section
namespace Go.Am
section
variable {P : Program} {G : Glob} {E : Env} {s : St} {w : World} {t : T} {a : Act} {o : Oper}
theorem liesAt_head {e : TypeId} (hc : 0 < P.cellsOf e) (count : Nat) (hn : 1 ≤ count) : liesAt P P.depth e count 0 e 1 = true := by
  have hd : P.depth = (2 * (P.types.size + Made.depth) + 1) + 1 := rfl
  rw [hd]
  simp only [liesAt, Bool.or_eq_true]
  left
  rw [hd]
  simp [Go.rowAt, hn, sameLayout]
  try omega
theorem toUnsafeC_ok (h : Rel E s w) (hG : GlobOk E G w) (ht : TR E t a) {src dst u : TypeId} {x : Operand} (ho : o.op = .convert src dst x) (hs : P.underlying src = some (.pointer u)) (hd : P.underlying dst = some .unsafePointer) :
    OpOk P E s w o a (toUnsafeC P u (evC G x) t s) := by
  have hx := evC_ok hG ht x
  generalize hv : a.eval x = v at hx
  unfold toUnsafeC
  cases hz : sizeT P u with
  | none => trivial
  | some n =>
    cases n with
    | zero => trivial
    | succ n =>
      simp only
      obtain ⟨iu, i1, i2⟩ := sizeT_info hz
      split
      · rename_i e
        rw [e] at hx
        cases hx
        exact .ofVal h (v := .pointer none) (by simp [execOp, ho, hv, convert, run_underlying hs, run_underlying hd, Conv.unsafePointer]) .nilp
      · rename_i r off e
        rw [e] at hx
        split
        · rename_i q hq
          obtain ⟨q1, q2⟩ := rowAt_eq hq
          rcases Bool.eq_false_or_eq_true (Nat.blt off q.vals.length) with hb | hb
          · rw [cond_of_true hb]
            have hlt : off < q.vals.length := Nat.le_of_ble_eq_true hb
            cases hx with
            | ptr off hl =>
              rename_i b base
              obtain ⟨c, ty, fz, g1, g2, g3, _⟩ := h.row r q b base q1 hl
              have hrun := Lib.run_to_unsafe w ⟨b, base + off, none⟩ hs hd i1 (by rw [i2]; exact Nat.succ_ne_zero n) (e := ty) (cells := c.size) (by simp [World.shape?, g1]) (by show base + off < c.size; omega)
              exact .ofVal h (v := .pointer (some ⟨b, base + off, none⟩)) (by simp only [execOp, ho, hv, Sem.run_bind, hrun, Result.andThen_ok]; rfl) (.ptr off hl)
          · rw [cond_of_false hb]; trivial
        · trivial
      · trivial
theorem fromUnsafeC_ok (h : Rel E s w) (hG : GlobOk E G w) (ht : TR E t a) {src dst u : TypeId} {x : Operand} (ho : o.op = .convert src dst x) (hs : P.underlying src = some .unsafePointer) (hd : P.underlying dst = some (.pointer u)) :
    OpOk P E s w o a (fromUnsafeC P u (evC G x) t s) := by
  have hx := evC_ok hG ht x
  generalize hv : a.eval x = v at hx
  unfold fromUnsafeC
  cases hz : sizeT P u with
  | none => trivial
  | some n =>
    cases n with
    | zero => trivial
    | succ n =>
      simp only
      obtain ⟨iu, i1, i2⟩ := sizeT_info hz
      split
      · rename_i e
        rw [e] at hx
        cases hx
        exact .ofVal h (v := .pointer none) (by simp [execOp, ho, hv, convert, run_underlying hs, run_underlying hd, Conv.unsafePointer]) .nilp
      · rename_i r e
        rw [e] at hx
        split
        · rename_i q hq
          obtain ⟨q1, q2⟩ := rowAt_eq hq
          rcases Bool.eq_false_or_eq_true (q.root.beq r && (q.pos.beq 0 && (q.ty.beq u && Nat.ble (n + 1) q.vals.length))) with hb | hb
          · rw [cond_of_true hb]
            simp only [Bool.and_eq_true] at hb
            have hroot := Nat.eq_of_beq_eq_true hb.1
            have hty := Nat.eq_of_beq_eq_true hb.2.2.1
            have hle := Nat.le_of_ble_eq_true hb.2.2.2
            cases hx with
            | ptr off hl =>
              rename_i b base
              have hb0 := h.b0 r q b base q1 hl hroot (Nat.eq_of_beq_eq_true hb.2.1)
              subst hb0
              obtain ⟨c, ty, fz, g1, g2, g3, g4⟩ := h.row r q b 0 q1 hl
              obtain ⟨⟨_, g5⟩, _⟩ := g4 q2
              have hcells : P.cellsOf u = n + 1 := by simp [Program.cellsOf, i1, i2]
              have hrun := Lib.run_from_unsafe w ⟨b, 0 + 0, none⟩ hs hd i1 (e := ty) (cells := c.size) (by simp [World.shape?, g1]) (by
                show liesAt P P.depth ty (c.size / P.cellsOf ty) (0 + 0) u 1 = true
                rw [g5, hty]
                exact liesAt_head (by rw [hcells]; omega) _ (by rw [hcells]; exact (Nat.one_le_div_iff (by omega)).2 (by omega)))
              exact .ofVal h (v := .pointer (some ⟨b, 0 + 0, none⟩)) (by simp only [execOp, ho, hv, Sem.run_bind, hrun, Result.andThen_ok]; rfl) (.ptr 0 hl)
          · rw [cond_of_false hb]; trivial
        · trivial
      · trivial
theorem convC_ok (h : Rel E s w) (hG : GlobOk E G w) (ht : TR E t a) {src dst : TypeId} {x : Operand} (ho : o.op = .convert src dst x) : OpOk P E s w o a (convC P G o src dst (evC G x) t s) := by
  suffices key : ∀ F, convC P G o src dst (evC G x) = F → OpOk P E s w o a (F t s) from key _ rfl
  intro F hF
  unfold convC at hF
  split at hF <;> subst hF
  · rename_i hs hd; exact toUnsafeC_ok h hG ht ho hs hd
  · rename_i hs hd; exact fromUnsafeC_ok h hG ht ho hs hd
  · exact convertC_ok h hG ht ho
theorem sliceDataC_ok (h : Rel E s w) (hG : GlobOk E G w) (ht : TR E t a) {x : Operand} {ty : TypeId} (ho : o.op = .call { callee := .builtin .unsafeSliceData, args := #[x], argTypes := #[ty] }) :
    OpOk P E s w o a (sliceDataC (evC G x) t s) := by
  have hx := evC_ok hG ht x
  generalize hv : a.eval x = v at hx
  unfold sliceDataC
  split
  · rename_i e
    rw [e] at hx
    have := vr_nilS hx
    subst this
    exact .ofVal h (v := .pointer none) (by simp [execOp, ho, resolve, invoke, builtin, hv, Lib.run_unsafeSliceData_nil]) .nilp
  · rename_i r off n es tg e
    rw [e] at hx
    cases hx with
    | sl h1 h2 h3 h4 hsome =>
      rename_i b base cap a'
      obtain ⟨e4, _⟩ := h4 (by omega)
      subst e4
      exact .ofVal h (v := .pointer (some ⟨b, base + off, none⟩)) (by simp [execOp, ho, resolve, invoke, builtin, hv, Lib.run_unsafeSliceData_row _ _ _ _ _ cap (show cap ≠ 0 by omega)]) (.ptr off h1)
  · rename_i c cs n tg nl e
    rw [e] at hx
    cases hx with
    | lst h1 h2 h3 h4 h5 h6 =>
      rename_i vs cap a'
      have hne : vs ≠ [] := fun e2 => by subst e2; cases h1
      obtain ⟨b, base, e6, h7⟩ := h6 hne
      subst e6
      exact .ofVal h (v := .pointer (some ⟨b, base + 0, none⟩)) (by simp [execOp, ho, resolve, invoke, builtin, hv, Lib.run_unsafeSliceData_row _ _ _ _ _ cap (show cap ≠ 0 by omega)]) (.ptrL 0 h1 h7)
  · trivial
theorem builtinC_ok (h : Rel E s w) (hG : GlobOk E G w) (ht : TR E t a) {b : Builtin} {args : Array Operand} {ts : Array TypeId}
    (ho : o.op = .call { callee := .builtin b, args := args, argTypes := ts }) : OpOk P E s w o a (builtinC P G o b args.toList ts.toList t s) := by
  have hp : OpOk P E s w o a (plainC P G o t s) := plainC_ok h hG ht (by intro cs b; rw [ho]; simp)
  obtain ⟨args⟩ := args
  obtain ⟨ts⟩ := ts
  suffices key : ∀ F, builtinC P G o b args ts = F → OpOk P E s w o a (F t s) from key _ rfl
  intro F hF
  unfold builtinC at hF
  split at hF <;> subst hF
  · exact appendC_ok h hG ht ho
  · exact lenC_ok h hG ht ho
  · exact capC_ok h hG ht ho
  · exact copyC_ok h hG ht ho
  · exact sliceDataC_ok h hG ht ho
  · exact unsafeStringC_ok h hG ht ho
  all_goals first | trivial | exact hp
theorem opC_ok {callF : CF} (hc : CFok P G callF) (h : Rel E s w) (hG : GlobOk E G w) (ht : TR E t a) : OpOk P E s w o a (opC P G callF o t s) := by
  suffices key : ∀ F, opC P G callF o = F → OpOk P E s w o a (F t s) from key _ rfl
  intro F hF
  unfold opC at hF
  split at hF <;> subst hF
  case h_1 x ho => exact .ofVal h (v := a.eval x) (by simp [execOp, ho]) (evC_ok hG ht x)
  case h_2 x ho => exact .ofVal h (v := a.eval x) (by simp [execOp, ho]) (evC_ok hG ht x)
  case h_3 ho => exact pickC_ok h hG ht ho
  case h_4 ho => exact allocC_ok h ho
  case h_5 ho => exact boxC_ok h hG ht ho
  case h_6 ho => exact buildC_ok h hG ht ho
  case h_7 ho => exact buildSliceC_ok h hG ht ho
  case h_8 ho => exact loadC_ok h hG ht ho
  case h_9 ho => exact storeC_ok h hG ht ho
  case h_10 ho => exact nilCheckC_ok h hG ht ho
  case h_11 ho => exact fieldAddrC_ok h hG ht ho
  case h_12 ho => exact fieldC_ok h hG ht ho
  case h_13 ho => exact indexAddrC_ok h hG ht ho
  case h_14 ho => exact indexC_ok h hG ht ho
  case h_15 ho => exact sliceC_ok h hG ht ho
  case h_16 ho => exact extractC_ok h hG ht ho
  case h_17 ho => exact makeFuncC_ok h hG ht ho
  case h_18 ho => exact makeInterfaceC_ok h hG ht ho
  case h_19 ho => exact makeSliceC_ok h hG ht ho
  case h_20 ho => exact makeMapC_ok h ho
  case h_21 ho => exact lookupC_ok h hG ht ho
  case h_22 ho => exact mapUpdateC_ok h hG ht ho
  case h_23 ho => exact typeAssertC_ok h hG ht ho
  case h_24 ho => exact panicC_ok h hG ht ho
  case h_25 ho => exact binC_ok h hG ht ho
  case h_26 ho => exact plainC_ok h hG ht (by intro cs b; rw [ho]; simp)
  case h_27 ho => exact convC_ok h hG ht ho
  case h_28 ho => exact callC_ok h hG ht hc ho
  case h_29 ho => exact builtinC_ok h hG ht ho
  case h_30 ho => exact deferC_ok hG ht ho
  case h_31 => trivial
end
end Go.Am
end
section
namespace Go.Am
mutual
def AV.same : AV → AV → Bool
  | .int k a, .int j b => kindEq k j && eqI a b
  | .bool a, .bool b => bif a then b else !b
  | .str a, .str b => eqNs a b
  | .nilp, .nilp => true
  | .ptr r a, .ptr q b => r.beq q && a.beq b
  | .ptrL l a, .ptrL m b => a.beq b && AV.sames l m
  | .sl r a b c d, .sl r' a' b' c' d' => r.beq r' && (a.beq a' && (b.beq b' && (c.beq c' && (bif d then d' else !d'))))
  | .lst l a b c, .lst l' a' b' c' => a.beq a' && ((bif b then b' else !b') && ((bif c then c' else !c') && AV.sames l l'))
  | .mp none, .mp none => true
  | .mp (some a), .mp (some b) => a.beq b
  | .hptr a, .hptr b => a.beq b
  | .fn (.func f) a b, .fn (.func g) c d => f.beq g && (AV.sames a c && AV.sames b d)
  | .nilfn, .nilfn => true
  | .ifc t a, .ifc u b => t.beq u && AV.same a b
  | .nilifc, .nilifc => true
  | .agg a, .agg b => AV.sames a b
  | .tup a, .tup b => AV.sames a b
  | _, _ => false
def AV.sames : List AV → List AV → Bool
  | [], [] => true
  | a :: l, b :: m => AV.same a b && AV.sames l m
  | _, _ => false
end
/-! ## Plans -/
inductive Kd where
  | pure
  | read
  | new
  | eff
def Kd.isEff : Kd → Bool
  | .eff => true
  | _ => false
def Kd.isRead : Kd → Bool
  | .read => true
  | _ => false
def kdOf (P : Program) (o : Oper) : Kd :=
  match o.op with
  | .move _ | .pick .. | .build .. | .nilCheck _ | .fieldAddr .. | .field .. | .indexAddr .. | .index .. | .extract .. | .makeFunc .. | .makeInterface ..
  | .typeAssert .. | .binOp .. | .unOp .. => .pure
  | .slice ty .. => match P.underlying ty with | some (.array _ _) => .eff | _ => .pure
  | .convert src _ _ => match P.underlying src with | some (.slice _) | some (.pointer _) | some .unsafePointer => .read | _ => .pure
  | .load .. => .read
  | .alloc _ | .box .. | .buildSlice .. => .new
  | .call { callee := .builtin b, args := _, argTypes := ts } => match b with
    | .len => match ts.toList with
      | [ty] => match P.underlying ty with | some (.map _ _) => .eff | _ => .pure
      | _ => .eff
    | .cap | .min | .max => .pure
    | _ => .eff
  | _ => .eff
def edgesOf (o : Oper) : List Nat := (o.after.toList.filter (Region.binds .any)).map (·.on)
def orAll (acc : List Nat) : List Nat → Nat
  | [] => 0
  | j :: l => (2 ^ j ||| acc.getD j 0) ||| orAll acc l
def befGo : List Oper → List Nat → List Nat
  | [], acc => acc
  | o :: l, acc => befGo l (acc ++ [orAll acc (edgesOf o)])
structure Plat where
  i : Nat
  o : Oper
  kd : Kd
  bef : Nat
  dst : Option Nat
  looks : List Nat
def subset (a b : Nat) : Bool := (a &&& b).beq a
def nextOf (done : Nat) (eff : Bool) : List Plat → Option Plat
  | [] => none
  | p :: l => bif !done.testBit p.i && subset p.bef done && (eff || !p.kd.isEff) then some p else nextOf done eff l
def orderOf (ps : List Plat) : Nat → Nat → List Plat
  | 0, _ => []
  | f + 1, done => match (match nextOf done false ps with | some p => some p | none => nextOf done true ps) with
    | some p => p :: orderOf ps f (done ||| 2 ^ p.i)
    | none => []
def platsGo (P : Program) (ops : Array Oper) : Nat → List Nat → List Oper → List Plat
  | i, b :: bs, o :: l => { i := i, o := o, kd := kdOf P o, bef := b, dst := o.dst, looks := o.looksAt ops } :: platsGo P ops (i + 1) bs l
  | _, _, _ => []
def orderOk : Nat → Nat → List Plat → Bool
  | _, _, [] => true
  | done, effs, p :: l => subset p.bef done && (!done.testBit p.i && (subset effs p.bef &&
      orderOk (done ||| 2 ^ p.i) (bif p.kd.isEff then effs ||| 2 ^ p.i else effs) l))
def hasN (d : Nat) : List Nat → Bool
  | [] => false
  | x :: l => bif x.beq d then true else hasN d l
def pairOk (p q : Plat) : Bool :=
  match q.dst with
  | none => true
  | some d => (!hasN d p.looks || p.bef.testBit q.i || (q.kd.isEff && (q.bef.testBit p.i || p.i.beq q.i))) &&
      (p.i.beq q.i || (match p.dst with | some c => !c.beq d | none => true))
def pairsOk (l : List Plat) : Bool := l.all fun p => l.all fun q => pairOk p q
structure Item where
  p : Plat
  /-- reads that may come behind this effect -/
  chk : List Oper
  /-- what is written by those that may come behind this effect -/
  fl : List Nat
def floats (e : Plat) (front : List Plat) : List Plat := front.filter fun p => !p.kd.isEff && !e.bef.testBit p.i
def floatOk (e : Plat) (front : List Plat) (p : Plat) : Bool :=
  (e :: front).all fun q => match q.dst with | none => true | some d => !hasN d p.looks || p.bef.testBit q.i
def itemsOf (front : List Plat) : List Plat → Option (List Item)
  | [] => some []
  | p :: l => match itemsOf (front ++ [p]) l with
    | some q => bif p.kd.isEff then
        let fl := floats p front
        bif fl.all (fun f => !f.kd.isRead || floatOk p front f) then some (⟨p, (fl.filter (·.kd.isRead)).map (·.o), fl.filterMap (·.dst)⟩ :: q) else none
      else some (⟨p, [], []⟩ :: q)
    | none => none
def noSel (o : Oper) : Bool := match o.op with | .select .. => false | _ => true
def planOf (P : Program) (ops : Array Oper) : Option (List Item) :=
  let os := ops.toList
  let ps := platsGo P ops 0 (befGo os []) os
  let l := orderOf ps os.length 0
  bif l.length.beq os.length && (ps.all fun p => hasN p.i (l.map (·.i))) && orderOk 0 0 l && pairsOk l && os.all noSel then itemsOf [] l else none
def plainItems (ops : Array Oper) : List Item := ops.toList.map fun o => ⟨⟨0, o, .eff, 0, o.dst, []⟩, [], []⟩
/-! ## Running -/
def putC (dst : Option Nat) : AV → T → T :=
  match dst with
  | none => fun _ t => t
  | some d => let p := pathOf d; fun v t => t.put d p v
def guardC (ops : Array Oper) (g : Option (Nat × Bool)) : T → Option Bool :=
  match g with
  | none => fun _ => some true
  | some (j, w) => match (ops[j]?).bind (·.dst) with
    | some d => let p := pathOf d; fun t => match getT p t with
      | .bool b => some (bif w then b else !b)
      | .tup [] => some false
      | _ => none
    | none => fun _ => some false
def maskT : List Nat → T → T
  | [], t => t
  | d :: l, t => maskT l (t.put d (pathOf d) .undef)
section
variable (P : Program) (G : Glob) (callF : CF) (ops : Array Oper)
def againC (o : Oper) : T → St → Bool :=
  let g := guardC ops o.guard
  let f := opC P G callF o
  match o.dst with
  | none => fun t s => match g t with
    | some b => bif b then (match f t s with | .val _ _ => true | _ => false) else true
    | none => false
  | some d => let p := pathOf d; fun t s => match g t with
    | some b => bif b then (match f t s with | .val v _ => AV.same v (getT p t) | _ => false) else true
    | none => false
def againsC : List Oper → T → St → Bool
  | [], _, _ => true
  | o :: l, t, s => againC P G callF ops o t s && againsC l t s
def goOn (chk : T → St → Bool) (t : T) (s : St) : Ex := bif chk t s then .mk .normal t s else .fail
def runEff (f : OpF) (put : AV → T → T) (chk : T → St → Bool) (fl : List Nat) : K := fun t s =>
  match f t s with
  | .val v s => goOn chk (put v t) s
  | .skip s => goOn chk (put (.tup []) t) s
  | .dfr g args s => goOn chk (put (.tup []) { t with ds := (g, args) :: t.ds }) s
  | .panic v s => .mk (.panic v) (maskT fl t) s
  | .fail => .fail
def runPlain (f : OpF) (put : AV → T → T) : K := fun t s =>
  match f t s with
  | .val v s => .mk .normal (put v t) s
  | _ => .fail
def runGuard (g : T → Option Bool) (put : AV → T → T) (k : K) : K := fun t s =>
  match g t with
  | some b => bif b then k t s else .mk .normal (put (.tup []) t) s
  | none => .fail
def itemC (it : Item) : K :=
  let k := bif it.p.kd.isEff then runEff (opC P G callF it.p.o) (putC it.p.dst) (againsC P G callF ops it.chk) it.fl
    else runPlain (opC P G callF it.p.o) (putC it.p.dst)
  match it.p.o.guard with
  | none => k
  | some g => runGuard (guardC ops (some g)) (putC it.p.dst) k
def doneC : K := fun t s => .mk .normal t s
def thenC (a b : K) : K := fun t s => match a t s with
  | .mk o t s => match o with | .normal => b t s | o => .mk o t s
  | .fail => .fail
def itemsC : List Item → K
  | [] => doneC
  | it :: l => thenC (itemC P G callF ops it) (itemsC l)
def regionC (draw : Bool) : K :=
  bif draw then match planOf P ops with | some l => itemsC P G callF ops l | none => fun _ _ => .fail
  else itemsC P G callF ops (plainItems ops)
end
def loopN (body : K) : Nat → K
  | 0 => fun _ _ => .fail
  | n + 1 => thenC body (loopN body n)
def condC (c : T → AV) (a b : K) : K := fun t s => match c t with | .bool u => bif u then a t s else b t s | _ => .fail
def blockC (id : Nat) (c : K) : K := fun t s => match c t s with
  | .mk o t s => match o with | .exit i => .mk (bif i.beq id then .normal else .exit i) t s | o => .mk o t s
  | .fail => .fail
section
variable (P : Program) (G : Glob) (callF : CF)
def execC (n : Nat) : Code → K
  | .skip => doneC
  | .region _ ops draw => regionC P G callF ops draw
  | .seq a b => thenC (execC n a) (execC n b)
  | .cond c a b => condC (evC G c) (execC n a) (execC n b)
  | .block id c => blockC id (execC n c)
  | .loop c => loopN (execC n c) n
  | .exit id => fun t s => .mk (.exit id) t s
  | .ret => fun t s => .mk .ret t s
  | .label _ => doneC
  | _ => fun _ _ => .fail
def resOf (rv : ResultVar) : T → St → Option AV :=
  match rv with
  | .tmp i => let p := pathOf i; fun t _ => some (getT p t)
  | .cell a ty => let p := pathOf a; match shapeT P ty with
    | some (some n) => fun t s => match cellsAt n (getT p t) s with | some l => some (.agg l) | none => none
    | some none => fun t s => cell1 (getT p t) s
    | none => fun _ _ => none
def resultsC : List ResultVar → T → St → Option (List AV)
  | [], _, _ => some []
  | r :: rs, t, s => match resOf P r t s, resultsC rs t s with
    | some v, some q => some (v :: q)
    | _, _ => none
def oneC (l : List AV) : AV := match l with | [v] => v | vs => .tup vs
def setArgs : List AV → Nat → Tr AV → Tr AV
  | [], _, t => t
  | v :: l, i, t => setArgs l (i + 1) (t.setP v (pathOf i))
def callD (n : Nat) (f : FuncId) : AV → List AV → St → Option St :=
  match P.funcs[f]? with
  | some fn => match fn.body with
    | some (.seq (.region _ ops false) rest) => match ops.toList with
      | [r, o] => match r.op, r.guard, o.op, o.guard with
        | .call { callee := .builtin .recover, .. }, none, .assign x, none => bif fn.results.toList.isEmpty then
            let k := execC P G callF n rest
            let e := evC G x
            fun rv args s => bif Nat.ble args.length fn.ntmps then
              let t := putC r.dst rv ⟨setArgs args 0 .nil, fn.ntmps, [], .no⟩
              match k (putC o.dst (e t) t) s with
              | .mk out t s => match t.ds, out with
                | [], .normal | [], .ret => some s
                | _, _ => none
              | .fail => none
            else none
          else fun _ _ _ => none
        | _, _, _, _ => fun _ _ _ => none
      | [r] => match r.op, r.guard with
        | .call { callee := .builtin .recover, .. }, none => bif fn.results.toList.isEmpty then
            let k := execC P G callF n rest
            fun rv args s => bif Nat.ble args.length fn.ntmps then
              match k (putC r.dst rv ⟨setArgs args 0 .nil, fn.ntmps, [], .no⟩) s with
              | .mk out t s => match t.ds, out with
                | [], .normal | [], .ret => some s
                | _, _ => none
              | .fail => none
            else none
          else fun _ _ _ => none
        | _, _ => fun _ _ _ => none
      | _ => fun _ _ _ => none
    | _ => fun _ _ _ => none
  | none => fun _ _ _ => none
def rcOf : Out → AV
  | .panic v => v
  | _ => .nilifc
def callE (n : Nat) (f : FuncId) : List AV → St → Option St :=
  match P.funcs[f]? with
  | some fn => match fn.body with
    | some body => bif fn.results.toList.isEmpty then
        let k := execC P G callF n body
        fun args s => bif Nat.ble args.length fn.ntmps then
          match k ⟨setArgs args 0 .nil, fn.ntmps, [], .no⟩ s with
          | .mk out t s => match t.ds, out with
            | [], .normal | [], .ret => some s
            | _, _ => none
          | .fail => none
        else none
      else fun _ _ => none
    | none => fun _ _ => none
  | none => fun _ _ => none
def callB (n : Nat) (f : FuncId) (o : Out) (args : List AV) (s : St) : Option St :=
  match callD P G callF n f (rcOf o) args s with
  | some s => some s
  | none => match o with
    | .ret => callE P G callF n f args s
    | _ => none
def runDs (cd : FuncId → Out → List AV → St → Option St) : List (FuncId × List AV) → Out → St → Option (Out × St)
  | [], o, s => some (o, s)
  | (f, args) :: l, o, s => match cd f o args s with
    | some s => runDs cd l .ret s
    | none => none
def endC (rs : List ResultVar) (cd : FuncId → Out → List AV → St → Option St) (o : Out) (t : T) (s : St) : Res :=
  match runDs cd t.ds o s with
  | some (.panic v, s) => .panic v s
  | some (_, s) => match resultsC P rs t s with | some l => .ret (oneC l) s | none => .fail
  | none => .fail
def finC (rs : List ResultVar) (cd : FuncId → Out → List AV → St → Option St) (e : Ex) : Res :=
  match e with
  | .mk o t s => match o with
    | .normal | .ret => endC P rs cd .ret t s
    | .panic v => endC P rs cd (.panic v) t s
    | .exit _ => .fail
  | .fail => .fail
def bodyC (n : Nat) (fn : Option Func) : List AV → St → Res :=
  match fn with
  | some fn => match fn.body with
    | some body =>
      let k := execC P G callF n body
      let rs := fn.results.toList
      fun args s => bif Nat.ble args.length fn.ntmps then finC P rs (callB P G callF n) (k ⟨setArgs args 0 .nil, fn.ntmps, [], .no⟩ s) else .fail
    | none => fun _ _ => .fail
  | none => fun _ _ => .fail
end
abbrev Known := FuncId → Option (List AV → St → Res)
def callN (P : Program) (G : Glob) (X : Known) (loops : Nat) : Nat → CF
  | 0 => fun _ _ _ => .fail
  | n + 1 => fun f => match X f with
    | some h => h
    | none => bodyC P G (callN P G X loops n) loops P.funcs[f]?
end Go.Am
end
