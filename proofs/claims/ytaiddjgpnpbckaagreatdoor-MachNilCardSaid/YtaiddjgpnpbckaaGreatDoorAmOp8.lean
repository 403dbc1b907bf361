/- The operations, on both sides: the rest, and all together. -/
import Derived.Test.YtaiddjgpnpbckaaGreatDoorAmOp7
set_option autoImplicit false
namespace Go.Am
open Go.MapKept (IsKey run_checkKey run_findKey)

def Enters (P : Program) (f : FuncId) : Prop := ∃ fn, P.funcs[f]? = some fn ∧ fn.body.isSome = true ∧ fn.name ≠ "runtime.NumGoroutine"

/-- What a call of the model comes to, against what it comes to here. -/
def ResOk (P : Program) (E : Env) (s : St) (w : World) (f : FuncId) (vs : List Value) : Res → Prop
  | .fail => True
  | .ret x s' => (Enters P f ∧ Calls P f ⟨vs⟩ w fun e w' => ∃ v' E', e = .returned v' ∧ Step E s w E' s' w' ∧ VR E' x v') ∨
      ∃ v' w' E', (callFunc f ⟨vs⟩).run P w = .ok (.value v') w' ∧ Step E s w E' s' w' ∧ VR E' x v'
  | .panic x s' => Enters P f ∧ Calls P f ⟨vs⟩ w fun e w' => ∃ v' E', e = .panicked [{ v := v', recovered := false }] ∧ Step E s w E' s' w' ∧ VR E' x v'

def CFok (P : Program) (G : Glob) (callF : CF) : Prop :=
  ∀ (f : FuncId) (args : List AV) (s : St) (E : Env) (w : World) (vs : List Value), Rel E s w → GlobOk E G → VRL E args vs → ResOk P E s w f vs (callF f args s)

section
variable {P : Program} {G : Glob} {E : Env} {s : St} {w : World} {t : T} {a : Act} {o : Oper}

theorem getObj_map {r : Nat} {es : Array MapEntry} {clock : Nat} (hb : w.heap[r]? = some (.map es clock)) : (getObj r).run P w = .ok (.map es clock) w := by
  simp [getObj, Sem.run, hb]

theorem run_callFunc {f : FuncId} (h : Enters P f) (args : Array Value) (w : World) : (callFunc f args).run P w = .ok (.enter f args) w := by
  obtain ⟨fn, h1, h2, h3⟩ := h
  have h5 : fn.body ≠ none := by intro e; rw [e] at h2; cases h2
  simp [callFunc, h1, h3, h5]

theorem backNx_ok {f : FuncId} {vs : List Value} {r : Res} (h : ResOk P E s w f vs r) (hrun : (execOp a.eval o).run P w = (callFunc f ⟨vs⟩).run P w) : OpOk P E s w o a (backNx r) := by
  cases r with
  | fail => trivial
  | ret x s' =>
    rcases h with ⟨h1, h2⟩ | ⟨v', w', E', h1, h2, h3⟩
    · exact .inr ⟨f, ⟨vs⟩, by rw [hrun, run_callFunc h1], h2⟩
    · exact .inl ⟨v', w', E', by rw [hrun, h1], h2, h3⟩
  | panic x s' =>
    obtain ⟨h1, h2⟩ := h
    exact .inr ⟨f, ⟨vs⟩, by rw [hrun, run_callFunc h1], h2⟩

theorem callC_ok (h : Rel E s w) (hG : GlobOk E G) (ht : TR E t a) {callF : CF} (hc : CFok P G callF) {f : Operand} {args : Array Operand} {ts : Array TypeId}
    (ho : o.op = .call { callee := .value f, args := args, argTypes := ts }) : OpOk P E s w o a (callC G callF f args.toList t s) := by
  have hargs := evL_ok hG ht args.toList
  have key : ∀ (g : FuncId) (first captured : List AV) (x y : List Value), a.eval f = .func (.func g) ⟨x⟩ ⟨y⟩ → VRL E first x → VRL E captured y →
      OpOk P E s w o a (backNx (callF g (first ++ evL G args.toList t ++ captured) s)) := by
    intro g first captured x y hf h1 h2
    refine backNx_ok (hc g _ s E w _ h hG ((h1.append hargs).append h2)) ?_
    have e : (⟨x⟩ ++ args.map a.eval ++ ⟨y⟩ : Array Value) = ⟨x ++ args.toList.map a.eval ++ y⟩ := by
      apply Array.ext'
      simp
    rw [← e] at *
    simp [execOp, ho, resolve, hf, Deferred.ofValue, invoke]
  have hf := evC_ok hG ht f
  unfold callC
  split
  · rename_i g
    have := key g [] [] [] [] rfl .nil .nil
    simpa using this
  · simp only
    split
    · rename_i g first captured e
      rw [e] at hf
      generalize hv : a.eval f = v at hf
      cases hf with
      | fn h1 h2 => exact key g first captured _ _ hv h1 h2
    · trivial

theorem deferC_ok (hG : GlobOk E G) (ht : TR E t a) {f : Operand} {args : Array Operand} {ts : Array TypeId}
    (ho : o.op = .defer { callee := .value f, args := args, argTypes := ts }) : OpOk P E s w o a (deferC G f args.toList t s) := by
  have hargs := evL_ok hG ht args.toList
  have hf := evC_ok hG ht f
  unfold deferC
  split
  · rename_i g first captured e
    rw [e] at hf
    generalize hv : a.eval f = v at hf
    cases hf with
    | fn h1 h2 =>
      rename_i x y
      refine ⟨rfl, { target := .fn (.func g) ⟨y⟩, args := ⟨x⟩ ++ args.map a.eval }, ?_, y, rfl, ?_⟩
      · simp [execOp, ho, resolve, hv, Deferred.ofValue]
      · simpa using (h1.append hargs).append h2
  · trivial

theorem pickC_ok (h : Rel E s w) (hG : GlobOk E G) (ht : TR E t a) {c x y : Operand} (ho : o.op = .pick c x y) : OpOk P E s w o a (pickC (evC G c) (evC G x) (evC G y) t s) := by
  have hc := evC_ok hG ht c
  have hx := evC_ok hG ht x
  have hy := evC_ok hG ht y
  unfold pickC
  split
  · rename_i u e
    rw [e] at hc
    generalize hv : a.eval c = v at hc
    cases hc
    cases u with
    | true => exact .ofVal h (v := a.eval x) (by simp [execOp, ho, hv, asBool]) hx
    | false => exact .ofVal h (v := a.eval y) (by simp [execOp, ho, hv, asBool]) hy
  · trivial

theorem extractC_ok (h : Rel E s w) (hG : GlobOk E G) (ht : TR E t a) {x : Operand} {i : Nat} (ho : o.op = .extract x i) : OpOk P E s w o a (extractC i (evC G x) t s) := by
  have hx := evC_ok hG ht x
  unfold extractC
  split
  · rename_i vs e
    rw [e] at hx
    generalize hv : a.eval x = v at hx
    cases hx with
    | tup hc =>
      refine valO_ok h fun y hy => ?_
      obtain ⟨u, h1, h2⟩ := hc.at_ hy
      exact ⟨u, by simp [execOp, ho, hv, Instr.extract, h1], h2⟩
  · trivial

theorem makeInterfaceC_ok (h : Rel E s w) (hG : GlobOk E G) (ht : TR E t a) {x : Operand} {ty : TypeId} (ho : o.op = .makeInterface ty x) : OpOk P E s w o a (makeInterfaceC P ty (evC G x) t s) := by
  have hx := evC_ok hG ht x
  unfold makeInterfaceC
  cases hu : P.underlying ty with
  | none => trivial
  | some d =>
    cases d with
    | interface ms => trivial
    | _ => exact .ofVal h (v := .iface ty (a.eval x)) (by simp [execOp, ho, Instr.makeInterface, run_underlying hu]) (.ifc hx)

theorem panicC_ok (h : Rel E s w) (hG : GlobOk E G) (ht : TR E t a) {x : Operand} (ho : o.op = .panic x) : OpOk P E s w o a (panicC (evC G x) t s) := by
  have hx := evC_ok hG ht x
  unfold panicC
  split
  · rename_i ty v e
    rw [e] at hx
    generalize hv : a.eval x = u at hx
    cases hx with
    | ifc h1 => exact .inl ⟨_, w, E, by simp [execOp, ho, hv, Instr.panic, goPanic, Sem.run], .refl h, .ifc h1⟩
  · trivial

theorem typeAssertC_ok (h : Rel E s w) (hG : GlobOk E G) (ht : TR E t a) {x : Operand} {xt asserted : TypeId} {ok : Bool} (ho : o.op = .typeAssert x xt asserted ok) :
    OpOk P E s w o a (typeAssertC P (evC G x) asserted ok t s) := by
  have hx := evC_ok hG ht x
  have key : ∀ (d : TypeDesc), P.underlying asserted = some d → (∀ ms, d ≠ .interface ms) → ∀ z, zeroT P asserted = some z →
      OpOk P E s w o a (match evC G x t with
      | .nilifc => bif ok then .val (.tup [z, .bool false]) s else .fail
      | .ifc ty y => bif ty.beq asserted then .val (bif ok then .tup [y, .bool true] else y) s
        else bif ok then .val (.tup [z, .bool false]) s else .fail
      | _ => .fail) := by
    intro d hu hd z hz
    obtain ⟨z', z1, z2⟩ := zeroT_run hz w
    have hzr := ofV_ok E z1
    generalize hv : a.eval x = v at hx
    split
    · rename_i e
      rw [e] at hx
      cases hx
      cases ok with
      | false => trivial
      | true =>
        refine .ofVal h (v := .tuple #[z', .bool false]) ?_ (.tup (.cons hzr (.cons (.bool _) .nil)))
        cases d <;> first | (simp [execOp, ho, hv, Instr.typeAssert, run_underlying hu, z2]; done) | exact absurd rfl (hd _)
    · rename_i ty y e
      rw [e] at hx
      cases hx with
      | ifc h1 =>
        rename_i u
        rcases Bool.eq_false_or_eq_true (ty.beq asserted) with hb | hb
        · rw [cond_of_true hb]
          have := Nat.eq_of_beq_eq_true hb
          subst this
          cases ok with
          | true =>
            refine .ofVal h (v := .tuple #[u, .bool true]) ?_ (.tup (.cons h1 (.cons (.bool _) .nil)))
            cases d <;> first | (simp [execOp, ho, hv, Instr.typeAssert, run_underlying hu]; done) | exact absurd rfl (hd _)
          | false =>
            refine .ofVal h (v := u) ?_ h1
            cases d <;> first | (simp [execOp, ho, hv, Instr.typeAssert, run_underlying hu]; done) | exact absurd rfl (hd _)
        · rw [cond_of_false hb]
          have hne : ty ≠ asserted := fun e => by subst e; simp at hb
          cases ok with
          | false => trivial
          | true =>
            refine .ofVal h (v := .tuple #[z', .bool false]) ?_ (.tup (.cons hzr (.cons (.bool _) .nil)))
            cases d <;> first | (simp [execOp, ho, hv, Instr.typeAssert, run_underlying hu, z2, hne]; done) | exact absurd rfl (hd _)
    · trivial
  unfold typeAssertC
  cases hu : P.underlying asserted with
  | none => trivial
  | some d =>
    cases hz : zeroT P asserted with
    | none => cases d <;> trivial
    | some z =>
      cases d with
      | interface ms => trivial
      | _ => exact key _ hu (by intro ms; simp) z hz

theorem sliceC_ok (h : Rel E s w) (hG : GlobOk E G) (ht : TR E t a) {x : Operand} {ty : TypeId} {lo hi mx : Option Operand} (ho : o.op = .slice ty x lo hi mx) :
    OpOk P E s w o a (sliceC P ty (evC G x) (lo.map (evC G)) (hi.map (evC G)) (mx.map (evC G)) t s) := by
  have hx := evC_ok hG ht x
  generalize hv : a.eval x = v at hx
  unfold sliceC
  cases hu : P.underlying ty with
  | none => trivial
  | some d =>
    cases d with
    | slice e =>
      cases hs : sizeT P e with
      | none => simp only [hs]; trivial
      | some n =>
        simp only [hs]
        split
        · trivial
        · rename_i y hy
          refine valO_ok h fun z hz => ?_
          obtain ⟨ad, len, cap, l, hh, m, e1, e2, e3⟩ := sliceA_ok (P := P) hG ht hy hz hx true w
          refine ⟨_, ?_, e3⟩
          subst e1
          simp [execOp, ho, hv, Instr.sliceAt, Instr.slice, run_underlying hu, e2, sizeT_run hs]
    | string =>
      simp only
      split
      · rename_i b e0
        rw [e0] at hx
        refine valO_ok h fun z hz => ?_
        obtain ⟨bs, l, hh, m, e1, e2, e3, e4⟩ := sliceStr_ok (P := P) hG ht hz hx w
        refine ⟨_, ?_, e4⟩
        subst e1 e2
        simp [execOp, ho, hv, Instr.sliceAt, Instr.slice, run_underlying hu, e3]
      · trivial
    | array len e =>
      cases hs : sizeT P e with
      | none => simp only [hs]; trivial
      | some n =>
        simp only [hs]
        split
        · rename_i r off e0
          rw [e0] at hx
          split
          · rename_i o' ho'
            rcases Bool.eq_false_or_eq_true (Nat.ble (off + len * n) o'.vals.length) with hb | hb
            · rw [cond_of_true hb]
              have hfit := Nat.le_of_ble_eq_true hb
              cases hx with
              | ptr off hl =>
                rename_i b base
                obtain ⟨c, cty, fz, g1, g2, g3, _⟩ := h.row r o' b base ho' hl
                refine valO_ok h fun z hz => ?_
                have hsl : VR E (.sl r off len n true) (.slice (some ⟨b, base + off, none⟩) len len) := .sl hl (Nat.le_refl _) (fun _ => rfl) (fun _ => ⟨rfl, by omega⟩)
                obtain ⟨ad, len', cap, l, hh, m, e1, e2, e3⟩ := sliceA_ok (P := P) hG ht (by intro b; simp) hz hsl false w
                cases e1
                refine ⟨_, ?_, e3⟩
                simp only [execOp, ho, hv, Instr.sliceAt, Sem.run_bind, run_underlying hu, Result.andThen_ok, Instr.sureAddr, Sem.run_pure, e2, sizeT_run hs]
                split <;> rfl
            · rw [cond_of_false hb]; trivial
          · trivial
        · trivial
    | _ => trivial

theorem lenC_ok (h : Rel E s w) (hG : GlobOk E G) (ht : TR E t a) {x : Operand} {ty : TypeId} (ho : o.op = .call { callee := .builtin .len, args := #[x], argTypes := #[ty] }) :
    OpOk P E s w o a (lenC P ty (evC G x) t s) := by
  have hx := evC_ok hG ht x
  generalize hv : a.eval x = v at hx
  unfold lenC
  cases hu : P.underlying ty with
  | none => trivial
  | some d =>
    cases d with
    | slice e =>
      simp only
      split
      · rename_i e0; rw [e0] at hx; cases hx
        exact .ofVal h (v := .int .i64 _) (by simp [execOp, ho, hv, resolve, invoke, builtin, Builtin.len_, run_underlying hu, goInt]) (.int _ _)
      · rename_i e0; rw [e0] at hx; cases hx
        exact .ofVal h (v := .int .i64 _) (by simp [execOp, ho, hv, resolve, invoke, builtin, Builtin.len_, run_underlying hu, goInt]) (.int _ _)
      · trivial
    | string =>
      simp only
      split
      · rename_i e0; rw [e0] at hx; cases hx with
        | str bs =>
          refine .ofVal h (v := .int .i64 bs.size) (by simp [execOp, ho, hv, resolve, invoke, builtin, Builtin.len_, run_underlying hu, goInt]) ?_
          rw [List.length_map, Array.length_toList]
          exact .int _ _
      · trivial
    | map k e =>
      simp only
      split
      · rename_i es he
        generalize hg : evC G x t = g at hx he
        cases hx with
        | mpn =>
          simp only [mapEs, Option.some.injEq] at he
          subst he
          exact .ofVal h (v := .int .i64 0) (by simp [execOp, ho, hv, resolve, invoke, builtin, Builtin.len_, run_underlying hu, goInt]) (.int _ _)
        | mp hl =>
          simp only [mapEs] at he
          split at he
          · rename_i es' hes
            cases he
            obtain ⟨ents, clock, m1, m2, m3⟩ := h.mapo _ _ _ _ hes hl
            have hlen := m2.length
            simp only [List.length_map, Array.length_toList] at hlen
            rw [hlen]
            exact .ofVal h (v := .int .i64 ents.size) (by simp [execOp, ho, hv, resolve, invoke, builtin, Builtin.len_, run_underlying hu, goInt, getObj_map m1]) (.int _ _)
          · cases he
        | _ => simp [mapEs] at he
      · trivial
    | array n e => exact .ofVal h (v := .int .i64 n) (by simp [execOp, ho, hv, resolve, invoke, builtin, Builtin.len_, run_underlying hu, goInt]) (.int _ _)
    | _ => trivial

theorem capC_ok (h : Rel E s w) (hG : GlobOk E G) (ht : TR E t a) {x : Operand} {ty : TypeId} (ho : o.op = .call { callee := .builtin .cap, args := #[x], argTypes := #[ty] }) :
    OpOk P E s w o a (capC P ty (evC G x) t s) := by
  have hx := evC_ok hG ht x
  generalize hv : a.eval x = v at hx
  unfold capC
  cases hu : P.underlying ty with
  | none => trivial
  | some d =>
    cases d with
    | slice e =>
      simp only
      split
      · rename_i e0; rw [e0] at hx; cases hx with
        | sl h1 h2 h3 h4 =>
          have := h3 rfl
          subst this
          exact .ofVal h (v := .int .i64 _) (by simp [execOp, ho, hv, resolve, invoke, builtin, Builtin.cap_, run_underlying hu, goInt]) (.int _ _)
      · rename_i e0; rw [e0] at hx; cases hx with
        | lst h1 h2 h3 h4 h5 h6 =>
          have := h3 rfl
          subst this
          exact .ofVal h (v := .int .i64 _) (by simp [execOp, ho, hv, resolve, invoke, builtin, Builtin.cap_, run_underlying hu, goInt]) (.int _ _)
      · trivial
    | _ => trivial

theorem seqT_kind {tx : TypeId} (h : seqT P tx = true) : (∃ e', P.underlying tx = some (.slice e')) ∨ P.underlying tx = some .string := by
  unfold seqT at h
  split at h
  · rename_i e he; exact .inl ⟨e, he⟩
  · rename_i he; exact .inr he
  · cases h

/-- What is appended, as the kit's law wants it. -/
theorem src_of (h : Rel E s w) {es k : Nat} {x : AV} {new : List AV} (hc : elemsN es k x s = some new) {v : Value} (hv : VR E x v) (hk : lenA x = some k) {tx : TypeId} (hty : seqT P tx = true)
    (hone : new.all AV.single = true) : ∃ news, VRL E new news ∧ Src P es tx v k news w := by
  rcases elems_ok h hc hv with ⟨ad, len, cap, vs, e1, e2, e3, e4⟩ | ⟨bs, e1, e2⟩
  · have hlen : k = len := by
      subst e1
      cases hv <;> simp [lenA] at hk <;> exact hk.symm
    subst hlen
    subst e1
    refine ⟨vs, e2, seqT_kind hty, fun _ => rfl, ?_, ?_, e3, e2.single hone⟩
    · exact firstCells_of e3 e4
    · refine firstCells_of e3 (fun hp => ?_)
      obtain ⟨b, off, a1, a2⟩ := e4 hp
      exact ⟨b, off, a1, fun i u hu => a2 i u hu⟩
  · subst e1
    cases hv with
    | str =>
      have h1 : es = 1 := by
        simp only [elemsN] at hc
        rcases Bool.eq_false_or_eq_true (es.beq 1) with hb | hb
        · exact Nat.eq_of_beq_eq_true hb
        · rw [cond_of_false hb] at hc; cases hc
      subst h1
      simp only [lenA, List.length_map, Array.length_toList, Option.some.injEq] at hk
      have hsz : bs.size = k := hk
      subst hsz
      have htk : bs.data.toList.take bs.size = bs.data.toList := List.take_of_length_le (by simp)
      rw [htk] at e2
      exact ⟨_, e2, seqT_kind hty, fun _ => rfl, firstCells_string bs w, firstCells_string bs w.drew, by rw [List.length_map, Array.length_toList, Nat.mul_one]; rfl, fun u hu => by
        obtain ⟨_, _, rfl⟩ := List.mem_map.1 hu; rfl⟩
    | undef => simp [lenA] at hk

theorem appendA_val (ty : TypeId) (es : Nat) (x : AV) (new : List AV) (n : Nat) (s : St) : (∃ a' s', appendA ty es x new n s = .val a' s') ∨ appendA ty es x new n s = .fail := by
  unfold appendA
  split
  · rcases Bool.eq_false_or_eq_true (n.beq 0) with h0 | h0
    · rw [cond_of_true h0]; exact .inl ⟨_, _, rfl⟩
    · rw [cond_of_false h0]
      rename_i cs len tight nl
      rcases Bool.eq_false_or_eq_true (tight && cs.length.beq (len * es)) with h1 | h1
      · rw [cond_of_true h1]; exact .inl ⟨_, _, rfl⟩
      · rw [cond_of_false h1]; exact .inr rfl
  · rename_i r off len es' tight
    rcases Bool.eq_false_or_eq_true (n.beq 0) with h0 | h0
    · rw [cond_of_true h0]; exact .inl ⟨_, _, rfl⟩
    · rw [cond_of_false h0]
      rcases Bool.eq_false_or_eq_true (es.beq es') with h1 | h1
      · rw [cond_of_true h1]
        split
        · rename_i o _
          rcases Bool.eq_false_or_eq_true (o.ty.beq ty) with h3 | h3
          rotate_left
          · rw [cond_of_false h3]; exact .inr rfl
          rw [cond_of_true h3]
          rcases Bool.eq_false_or_eq_true tight with h2 | h2
          · rw [cond_of_true h2]; split
            · exact .inl ⟨_, _, rfl⟩
            · exact .inr rfl
          · rw [cond_of_false h2]; split
            · unfold appendT
              split
              · exact .inl ⟨_, _, rfl⟩
              · exact .inr rfl
            · exact .inr rfl
        · exact .inr rfl
      · rw [cond_of_false h1]; exact .inr rfl
  · exact .inr rfl

theorem appendC_ok (h : Rel E s w) (hG : GlobOk E G) (ht : TR E t a) {x y : Operand} {ty tx : TypeId} (ho : o.op = .call { callee := .builtin .append, args := #[x, y], argTypes := #[ty, tx] }) :
    OpOk P E s w o a (appendC P ty tx (evC G x) (evC G y) t s) := by
  have hx := evC_ok hG ht x
  have hy := evC_ok hG ht y
  unfold appendC
  rcases Bool.eq_false_or_eq_true (seqT P tx) with hq | hq
  · rw [cond_of_true hq]
    cases he : sliceElemT P ty with
    | none => trivial
    | some e =>
      cases hs : sizeT P e with
      | none => simp only [hs]; trivial
      | some n =>
        cases hb : bytesT P e with
        | none => simp only [hs, hb]; trivial
        | some b =>
          cases hz : zeroT P e with
          | none => simp only [hs, hb, hz]; trivial
          | some z =>
            simp only [hs, hb, hz]
            rcases Bool.eq_false_or_eq_true (Nat.ble b 65536 && n.beq z.cells.length) with hq2 | hq2
            · rw [cond_of_true hq2]
              rw [Bool.and_eq_true] at hq2
              have hbb := Nat.le_of_ble_eq_true hq2.1
              have hn := Nat.eq_of_beq_eq_true hq2.2
              obtain ⟨ie, z', i1, i2, i3⟩ := zeroT_info hz
              obtain ⟨ie2, e1, e2⟩ := sizeT_info hs
              rw [i1] at e1; cases e1
              obtain ⟨ie3, e3, e4⟩ := bytesT_info hb
              rw [i1] at e3; cases e3
              have hzc : VRL E z.cells z'.cells.toList := (ofV_ok E i3).cells (fun e => ofV_ne (by rw [i3, e]))
              have A : AppTy P ty e ie z' n := ⟨sliceElemT_und he, i1, i2, e2, by have := hzc.length; simp only [Array.length_toList] at this; omega, by rw [e4]; exact hbb⟩
              split
              · rename_i k j hk hj
                rcases Bool.eq_false_or_eq_true (Nat.ble (j + k) 1073741824) with hq3 | hq3
                · rw [cond_of_true hq3]
                  have hjk := Nat.le_of_ble_eq_true hq3
                  split
                  · rename_i new hnew
                    rcases Bool.eq_false_or_eq_true (new.all AV.single) with hq4 | hq4
                    · rw [cond_of_true hq4]
                      rcases appendA_val e n (evC G x t) new k s with ⟨a', s', hap⟩ | hap
                      · rw [hap]
                        obtain ⟨news, hn1, hsrc⟩ := src_of (P := P) h hnew hy hk hq hq4
                        subst e2
                        obtain ⟨v', w', E', r1, r2, r3⟩ := append_ok h A (ty := o.type) hap hx hn1 hsrc hj hjk
                        exact .inl ⟨v', w', E', by simp [execOp, ho, resolve, invoke, builtin, r1], r2, r3⟩
                      · rw [hap]; trivial
                    · rw [cond_of_false hq4]; trivial
                  · trivial
                · rw [cond_of_false hq3]; trivial
              · trivial
            · rw [cond_of_false hq2]; trivial
  · rw [cond_of_false hq]; trivial

theorem copyC_ok (h : Rel E s w) (hG : GlobOk E G) (ht : TR E t a) {x y : Operand} {ty tx : TypeId} (ho : o.op = .call { callee := .builtin .copy, args := #[x, y], argTypes := #[ty, tx] }) :
    OpOk P E s w o a (copyC P ty (evC G x) (evC G y) t s) := by
  have hx := evC_ok hG ht x
  have hy := evC_ok hG ht y
  generalize hv : a.eval x = v at hx
  generalize hu : a.eval y = u at hy
  unfold copyC
  cases he : sliceElemT P ty with
  | none => trivial
  | some e =>
    cases hs : sizeT P e with
    | none => simp only [hs]; trivial
    | some n =>
      simp only [hs]
      split
      · rename_i r off dl es tight k e1 e2
        rw [e1] at hx
        rcases Bool.eq_false_or_eq_true (n.beq es) with hb | hb
        · rw [cond_of_true hb]
          have := Nat.eq_of_beq_eq_true hb
          subst this
          cases hx with
          | sl hl h2 h3 h4 =>
            rename_i b base cap ad
            -- how long the source is
            have hlen : (Builtin.lenOf u).run P w = .ok k w := by
              generalize hg : evC G y t = g at hy e2
              cases hy <;> simp [lenA] at e2
              · subst e2; rfl
              · subst e2; rfl
              · subst e2; simp [Builtin.lenOf]
            rcases Bool.eq_false_or_eq_true ((Nat.min k dl).beq 0) with hm | hm
            · rw [cond_of_true hm]
              have hm0 := Nat.eq_of_beq_eq_true hm
              have hform : (∃ ad2 len2 cap2, u = .slice ad2 len2 cap2) ∨ ∃ bs, u = .string bs := by
                generalize hg : evC G y t = g at hy e2
                cases hy <;> simp [lenA] at e2
                all_goals first | exact .inl ⟨_, _, _, rfl⟩ | exact .inr ⟨_, rfl⟩
              have hf : (Builtin.firstCells n 0 u).run P w = .ok #[] w := by
                rcases hform with ⟨ad2, len2, cap2, rfl⟩ | ⟨bs, rfl⟩
                · cases ad2 <;> simp [Builtin.firstCells, loadCells, loadCellsFrom]
                · simp [Builtin.firstCells]
              refine .ofVal h (v := .int .i64 0) ?_ (.int _ _)
              cases ad <;> simp [execOp, ho, hv, hu, resolve, invoke, builtin, Builtin.copy_, run_underlying (sliceElemT_und he), hlen, sizeT_run hs, hm0, hf, storeCells, goInt]
            · rw [cond_of_false hm]
              have hm0 : Nat.min k dl ≠ 0 := fun e => by rw [e] at hm; simp at hm
              split
              · rename_i new hnew
                rcases Bool.eq_false_or_eq_true (new.all AV.single) with hq4 | hq4
                · rw [cond_of_true hq4]
                  split
                  · rename_i s' hst
                    have hmin : Nat.min k dl ≤ dl := Nat.min_le_right _ _
                    obtain ⟨e5, e6⟩ := h4 (by omega)
                    subst e5
                    -- the cells
                    have hcells : ∃ news, VRL E new news ∧ (Builtin.firstCells n (Nat.min k dl) u).run P w = .ok news.toArray w := by
                      rcases elems_ok h hnew hy with ⟨ad2, len2, cap2, vs, a1, a2, a3, a4⟩ | ⟨bs, a1, a2⟩
                      · subst a1
                        refine ⟨vs, a2, ?_⟩
                        cases ad2 with
                        | none =>
                          have : vs = [] := by
                            cases vs with
                            | nil => rfl
                            | cons z zs => obtain ⟨_, _, a5, _⟩ := a4 (by simp); cases a5
                          subst this
                          simp [Builtin.firstCells]
                        | some ad2 =>
                          refine run_firstCells_some w n _ ad2 len2 cap2 vs a3 (fun j u hj => ?_)
                          have hp0 : 0 < vs.length := by cases vs with | nil => simp at hj | cons => simp
                          obtain ⟨b2, off2, a5, a6⟩ := a4 hp0
                          cases a5
                          rw [Addr.add_lit]; exact a6 j u hj
                      · subst a1
                        refine ⟨_, a2, ?_⟩
                        simp [Builtin.firstCells]
                        apply Array.ext'
                        simp
                    obtain ⟨news, n1, n2⟩ := hcells
                    obtain ⟨c, cty, g1, g2, g3⟩ := Step.store h hst n1 hl
                    have hrun := run_storeCells_at P b (base + off) cty news 0 c w g1 (by simpa using g2) (n1.single hq4)
                    simp only [Nat.add_zero] at hrun
                    refine .inl ⟨.int .i64 (Nat.min k dl : Nat), _, E, ?_, g3, .int _ _⟩
                    simp [execOp, ho, hv, hu, resolve, invoke, builtin, Builtin.copy_, run_underlying (sliceElemT_und he), hlen, sizeT_run hs, n2, hrun, goInt]
                  · trivial
                · rw [cond_of_false hq4]; trivial
              · trivial
        · rw [cond_of_false hb]; trivial
      · trivial

/-! ### maps -/

theorem keyT_und {kt : TypeId} {d : KK} (h : keyT P kt = some d) : (d = .str ∧ P.underlying kt = some .string) ∨ ∃ k, d = .int k ∧ P.underlying kt = some (.int k) := by
  unfold keyT at h
  split at h
  · rename_i e; cases h; exact .inl ⟨rfl, e⟩
  · rename_i k e; cases h; exact .inr ⟨k, rfl, e⟩
  · cases h

def KK.desc : KK → TypeDesc
  | .str => .string
  | .int k => .int k

theorem keyT_desc {kt : TypeId} {d : KK} (h : keyT P kt = some d) : P.underlying kt = some d.desc := by
  rcases keyT_und h with ⟨rfl, e⟩ | ⟨k, rfl, e⟩ <;> exact e

theorem isKey_ok {d : KK} {x : AV} (h : isKey d x = true) {v : Value} (hv : VR E x v) : IsKey d.desc v := by
  cases d with
  | str => cases hv <;> simp [isKey] at h; trivial
  | int k =>
    cases hv <;> simp [isKey] at h
    exact (kindEq_eq h).symm

theorem byteArray_beq (x y : ByteArray) : (x == y) = (x.toList == y.toList) := by
  have h : (x == y) = (x.data == y.data) := rfl
  rw [h, toList_eq_data, toList_eq_data, Bool.eq_iff_iff, beq_iff_eq, beq_iff_eq]
  exact Array.toList_inj.symm

theorem eqKey_ok {d : KK} {x y : AV} {b : Bool} (h : eqKey d x y = some b) {u v : Value} (hu : VR E x u) (hv : VR E y v) : Instr.sameNow d.desc u v = some b := by
  cases d with
  | str =>
    cases hu <;> cases hv <;> simp [eqKey] at h
    rw [← h, str_eq]
    simp only [KK.desc, Instr.sameNow, byteArray_beq]
  | int k =>
    cases hu <;> cases hv <;> simp [eqKey] at h
    rename_i k1 n1 k2 n2
    rcases Bool.eq_false_or_eq_true (kindEq k k1 && kindEq k k2) with hb | hb
    · rw [hb] at h
      simp only [cond_true, Option.some.injEq] at h
      rw [Bool.and_eq_true] at hb
      have e1 := kindEq_eq hb.1
      have e2 := kindEq_eq hb.2
      subst e1 e2
      simp [KK.desc, Instr.sameNow, ← h, eqI_eq]
    · rw [hb] at h; cases h

theorem findA_ok {d : KK} {x : AV} {v : Value} (hv : VR E x v) : ∀ {es : List (AV × AV)} {ents : List MapEntry} {r : Option AV}, VRL E (es.map (·.1)) (ents.map (·.key)) → VRL E (es.map (·.2)) (ents.map (·.val)) →
    findA d x es = some r → ∀ i, (r = none ∧ Instr.findNow d.desc v ents i = some none) ∨ ∃ y j u, r = some y ∧ Instr.findNow d.desc v ents i = some (some (i + j, u)) ∧ VR E y u ∧ j < ents.length
  | [], ents, r, h1, h2, h, i => by
    cases ents with
    | nil => simp [findA] at h; subst h; exact .inl ⟨rfl, rfl⟩
    | cons => cases h1
  | (k, y) :: es, ents, r, h1, h2, h, i => by
    cases ents with
    | nil => cases h1
    | cons e ents =>
      cases h1 with
      | cons a1 a2 =>
        cases h2 with
        | cons b1 b2 =>
          simp only [findA] at h
          split at h
          · rename_i b hb
            have hs := eqKey_ok hb hv a1
            cases b with
            | true =>
              simp only [cond_true, Option.some.injEq] at h
              subst h
              exact .inr ⟨y, 0, e.val, rfl, by simp [Instr.findNow, hs], b1, by simp⟩
            | false =>
              simp only [cond_false] at h
              rcases findA_ok hv a2 b2 h (i + 1) with ⟨c1, c2⟩ | ⟨y2, j, u, c1, c2, c3, c4⟩
              · exact .inl ⟨c1, by simp [Instr.findNow, hs, c2]⟩
              · exact .inr ⟨y2, j + 1, u, c1, by simp [Instr.findNow, hs, c2]; omega, c3, by simp; omega⟩
          · cases h

theorem lookupC_ok (h : Rel E s w) (hG : GlobOk E G) (ht : TR E t a) {m k : Operand} {ty : TypeId} {ok : Bool} (ho : o.op = .lookup ty m k ok) :
    OpOk P E s w o a (lookupC P ty (evC G m) (evC G k) ok t s) := by
  have hm := evC_ok hG ht m
  have hk := evC_ok hG ht k
  generalize hmv : a.eval m = mv at hm
  generalize hkv : a.eval k = kv at hk
  cases hu : P.underlying ty with
  | none => simp only [lookupC, hu]; trivial
  | some dd =>
    cases dd with
    | map kt e =>
      cases hz : zeroT P e with
      | none => simp only [lookupC, hu, hz]; trivial
      | some z =>
        cases hd : keyT P kt with
        | none => simp only [lookupC, hu, hz, hd]; trivial
        | some d =>
          simp only [lookupC, hu, hz, hd]
          rcases Bool.eq_false_or_eq_true (isKey d (evC G k t)) with hq | hq
          · rw [cond_of_true hq]
            have hik := isKey_ok hq hk
            have hdesc := keyT_desc hd
            obtain ⟨z', z1, z2⟩ := zeroT_run hz w
            split
            · rename_i es hes
              -- the entries
              have hents : ∃ ents : Array MapEntry, VRL E (es.map (·.1)) (ents.toList.map (·.key)) ∧ VRL E (es.map (·.2)) (ents.toList.map (·.val)) ∧
                  ((mv = .map none ∧ ents = #[]) ∨ ∃ b clock, mv = .map (some b) ∧ w.heap[b]? = some (.map ents clock)) := by
                generalize hg : evC G m t = g at hm hes
                cases hm with
                | mpn => simp only [mapEs, Option.some.injEq] at hes; subst hes; exact ⟨#[], .nil, .nil, .inl ⟨rfl, rfl⟩⟩
                | mp hl =>
                  simp only [mapEs] at hes
                  split at hes
                  · rename_i es' he'
                    cases hes
                    obtain ⟨ents, clock, m1, m2, m3⟩ := h.mapo _ _ _ _ he' hl
                    exact ⟨ents, m2, m3, .inr ⟨_, clock, rfl, m1⟩⟩
                  · cases hes
                | _ => simp [mapEs] at hes
              obtain ⟨ents, x1, x2, x3⟩ := hents
              have hchk : ∀ em, (Instr.checkKey em 10000 kt kv).run P w = .ok () w := fun em => run_checkKey hdesc hik em 9999
              have fin : ∀ (r : Option (Nat × Value)), Instr.findNow d.desc kv ents.toList 0 = some r →
                  (Instr.lookup ty mv kv ok).run P w = .ok (if ok then .tuple #[(match r with | some (_, v) => v | none => z'), .bool r.isSome] else (match r with | some (_, v) => v | none => z')) w := by
                intro r hr
                have hfk := run_findKey (P := P) (w := w) hdesc hr
                rcases x3 with ⟨e1, e2⟩ | ⟨b, clock, e1, e2⟩
                · subst e1 e2
                  cases r with
                  | none => simp [Instr.lookup, run_underlying hu, hchk, hfk, z2]
                  | some p => simp [Instr.lookup, run_underlying hu, hchk, hfk]
                · subst e1
                  cases r with
                  | none => simp [Instr.lookup, run_underlying hu, getObj_map e2, hchk, hfk, z2]
                  | some p => simp [Instr.lookup, run_underlying hu, getObj_map e2, hchk, hfk]
              have hz1 := ofV_ok E z1
              split
              · rename_i y hy
                rcases findA_ok hk x1 x2 hy 0 with ⟨c1, _⟩ | ⟨y2, j, u, c1, c2, c3, _⟩
                · cases c1
                · cases c1
                  have := fin _ c2
                  cases ok with
                  | true => exact .ofVal h (v := .tuple #[u, .bool true]) (by simp [execOp, ho, hmv, hkv, this]) (.tup (.cons c3 (.cons (.bool _) .nil)))
                  | false => exact .ofVal h (v := u) (by simp [execOp, ho, hmv, hkv, this]) c3
              · rename_i hy
                rcases findA_ok hk x1 x2 hy 0 with ⟨_, c2⟩ | ⟨y2, j, u, c1, _⟩
                · have := fin _ c2
                  cases ok with
                  | true => exact .ofVal h (v := .tuple #[z', .bool false]) (by simp [execOp, ho, hmv, hkv, this]) (.tup (.cons hz1 (.cons (.bool _) .nil)))
                  | false => exact .ofVal h (v := z') (by simp [execOp, ho, hmv, hkv, this]) hz1
                · cases c1
              · trivial
            · trivial
          · rw [cond_of_false hq]; trivial
    | _ => simp only [lookupC, hu]; trivial
end
end Go.Am
