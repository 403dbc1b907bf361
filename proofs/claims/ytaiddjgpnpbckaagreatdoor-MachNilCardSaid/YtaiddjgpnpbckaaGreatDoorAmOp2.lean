/- The operations, on both sides: scalars, structs, pointers. -/
import Derived.Laws.StructEq
import Derived.Test.YtaiddjgpnpbckaaGreatDoorAmOp
import Derived.Laws.Strings
import Derived.Lib.Builder
set_option autoImplicit false
namespace Go.Am

section
variable {P : Program} {G : Glob} {E : Env} {s : St} {w : World} {t : T} {a : Act} {o : Oper}

theorem run_binOp {op : BinOp} {ty yt : TypeId} {x y : Operand} (ho : o.op = .binOp op ty x y yt) {u v r : Value} (hu : a.eval x = u) (hv : a.eval y = v)
    (hg : (eqGuard op ty x y u v).run P w = .ok () w) (hr : (binOp op ty u v).run P w = .ok r w) : (execOp a.eval o).run P w = .ok (.value r) w := by
  simp only [execOp, ho, hu, hv]
  simp [hg, hr]

theorem eqGuard_int (op : BinOp) (ty : TypeId) (x y : Operand) (k k' : IntKind) (m n : Int) : (eqGuard op ty x y (.int k m) (.int k' n)).run P w = .ok () w := by
  unfold eqGuard
  cases op <;> simp

theorem eqGuard_str (op : BinOp) (ty : TypeId) (x y : Operand) (m n : ByteArray) : (eqGuard op ty x y (.string m) (.string n)).run P w = .ok () w := by
  unfold eqGuard
  cases op <;> simp

theorem not_dec (m n : Int) : (!decide (n ≤ m)) = decide (m < n) := by rw [Bool.eq_iff_iff]; simp

theorem intOp_run {op : BinOp} {f : IntKind → Int → Int → AV} (hf : intOp op = some f) (ty : TypeId) (k : IntKind) (m n : Int) :
    ∃ r, (binOp op ty (.int k m) (.int k n)).run P w = .ok r w ∧ VR E (f k m n) r := by
  cases op <;> simp only [intOp, Option.some.injEq] at hf <;> first | (cases hf; done) | subst hf
  · exact ⟨.int k (k.wrap (m + n)), by simp [binOp, Op.intArith], .int _ _⟩
  · exact ⟨.int k (k.wrap (m - n)), by simp [binOp, Op.intArith], .int _ _⟩
  · exact ⟨.int k (k.wrap (m * n)), by simp [binOp, Op.intArith], .int _ _⟩
  · exact ⟨.bool (m == n), by simp [binOp, Op.intCmp], by show VR E (.bool (eqI m n)) _; rw [eqI_eq]; exact .bool _⟩
  · exact ⟨.bool (m != n), by simp [binOp, Op.intCmp], by show VR E (.bool (!eqI m n)) _; rw [eqI_eq]; exact .bool _⟩
  · exact ⟨.bool (decide (m < n)), by simp [binOp, Op.intCmp], by show VR E (.bool (!leI n m)) _; rw [leI_eq, not_dec]; exact .bool _⟩
  · exact ⟨.bool (decide (m ≤ n)), by simp [binOp, Op.intCmp], by show VR E (.bool (leI m n)) _; rw [leI_eq]; exact .bool _⟩
  · exact ⟨.bool (decide (n < m)), by simp [binOp, Op.intCmp], by show VR E (.bool (!leI m n)) _; rw [leI_eq, not_dec]; exact .bool _⟩
  · exact ⟨.bool (decide (n ≤ m)), by simp [binOp, Op.intCmp], by show VR E (.bool (leI n m)) _; rw [leI_eq]; exact .bool _⟩

theorem toList_eq_data (s : ByteArray) : s.toList = s.data.toList := ByteArray.toList_eq s

theorem str_eq (x y : ByteArray) : eqNs (x.data.toList.map (·.toNat)) (y.data.toList.map (·.toNat)) = (x.toList == y.toList) := by
  rw [eqNs_eq, toList_eq_data, toList_eq_data, Bool.eq_iff_iff]
  simp only [decide_eq_true_eq, beq_iff_eq]
  exact bytes_eq_iff x y

theorem eqGuard_skip {op : BinOp} {ty : TypeId} {x y : Operand} {u v : Value} {w : World} (h1 : u ≠ .nilIface ∨ v ≠ .nilIface) (h2 : ∀ cs, u ≠ .agg cs) : (eqGuard op ty x y u v).run P w = .ok () w := by
  cases op <;> first | rfl | (cases u <;> first | rfl | exact absurd rfl (h2 _) | (rcases h1 with h1 | h1; exact absurd rfl h1; cases v <;> first | rfl | exact absurd rfl h1))

theorem vr_nilS {v : Value} (h : VR E (.lst [] 0 true true) v) : v = .slice none 0 0 := by
  cases h with
  | lst h hl ht hn hc hz =>
    rename_i a
    have := ht rfl
    subst this
    cases a with
    | none => rfl
    | some _ => simp at hn

theorem nilEq_run (d0 : Nat) {ty : TypeId} {u v : AV} {x y : Value} {b : Bool} (h : nilEq (P.underlying ty) u v = some b) (hu : VR E u x) (hv : VR E v y) :
    (Op.equalIn (d0 + 1) ty x y).run P w = .ok b w ∧ (x ≠ .nilIface ∨ y ≠ .nilIface) ∧ ∀ cs, x ≠ .agg cs := by
  cases hd : P.underlying ty with
  | none => rw [hd] at h; simp [nilEq] at h
  | some d =>
    rw [hd] at h
    cases d with
    | pointer e =>
      simp only [nilEq] at h
      split at h <;> cases h
      all_goals (cases hu; cases hv; exact ⟨by simp [Op.equalIn, run_underlying hd], by simp, by simp⟩)
    | slice e =>
      simp only [nilEq] at h
      split at h <;> cases h
      · have := vr_nilS hv
        subst this
        cases hu with
        | lst h1 h2 h3 h4 h5 h6 =>
          rename_i a
          subst h4
          cases a <;> exact ⟨by simp [Op.equalIn, run_underlying hd], by simp, by simp⟩
      · have := vr_nilS hu
        subst this
        cases hv with
        | lst h1 h2 h3 h4 h5 h6 =>
          rename_i a
          subst h4
          cases a <;> exact ⟨by simp [Op.equalIn, run_underlying hd], by simp, by simp⟩
      · have := vr_nilS hv
        subst this
        cases hu with
        | sl h1 h2 h3 h4 =>
          obtain ⟨e, _⟩ := h4 (by omega)
          subst e
          exact ⟨by simp [Op.equalIn, run_underlying hd], by simp, by simp⟩
      · have := vr_nilS hu
        subst this
        cases hv with
        | sl h1 h2 h3 h4 =>
          obtain ⟨e, _⟩ := h4 (by omega)
          subst e
          exact ⟨by simp [Op.equalIn, run_underlying hd], by simp, by simp⟩
    | map k e =>
      simp only [nilEq] at h
      split at h <;> cases h
      all_goals (cases hu; cases hv; exact ⟨by simp [Op.equalIn, run_underlying hd], by simp, by simp⟩)
    | func a b c =>
      simp only [nilEq] at h
      split at h <;> cases h
      all_goals (cases hu; cases hv; exact ⟨by simp [Op.equalIn, run_underlying hd], by simp, by simp⟩)
    | interface ms =>
      simp only [nilEq] at h
      split at h <;> cases h
      all_goals (cases hu; cases hv; exact ⟨by simp [Op.equalIn, run_underlying hd], by simp, by simp⟩)
    | _ => simp [nilEq] at h

theorem binOp_eql {ty : TypeId} {u v : AV} {x y : Value} {b : Bool} (h : nilEq (P.underlying ty) u v = some b) (hu : VR E u x) (hv : VR E v y) :
    (binOp .eql ty x y).run P w = .ok (.bool b) w ∧ (binOp .neq ty x y).run P w = .ok (.bool !b) w := by
  obtain ⟨h1, _, _⟩ := nilEq_run (w := w) 9999 h hu hv
  have h1 : (Op.equal ty x y).run P w = .ok b w := h1
  unfold nilEq at h
  have key : (∀ k n, x ≠ .int k n) ∧ (∀ k n, x ≠ .float k n) ∧ (∀ k a b, x ≠ .complex k a b) ∧ (∀ s, x ≠ .string s) := by
    repeat' (split at h)
    all_goals first | (cases h; done) | (cases hu <;> exact ⟨by simp, by simp, by simp, by simp⟩)
  obtain ⟨k1, k2, k3, k4⟩ := key
  cases x <;> first | exact absurd rfl (k1 _ _) | exact absurd rfl (k2 _ _) | exact absurd rfl (k3 _ _ _) | exact absurd rfl (k4 _) | exact ⟨by simp [binOp, h1], by simp [binOp, h1]⟩

theorem nilEqC_ok (h : Rel E s w) (hG : GlobOk E G) (ht : TR E t a) {op : BinOp} {neg : Bool} {ty yt : TypeId} {x y : Operand} (ho : o.op = .binOp op ty x y yt) (hop : (op = .eql ∧ neg = false) ∨ (op = .neq ∧ neg = true)) {k : OpF}
    (hk : OpOk P E s w o a (k t s)) : OpOk P E s w o a (nilEqC (P.underlying ty) neg (evC G x) (evC G y) k t s) := by
  have hx := evC_ok hG ht x
  have hy := evC_ok hG ht y
  unfold nilEqC
  split
  · rename_i b e
    obtain ⟨_, h2, h3⟩ := nilEq_run (w := w) 0 e hx hy
    obtain ⟨h4, h5⟩ := binOp_eql (w := w) e hx hy
    rcases hop with ⟨rfl, rfl⟩ | ⟨rfl, rfl⟩
    · exact .ofVal h (run_binOp ho rfl rfl (eqGuard_skip h2 h3) h4) (.bool _)
    · exact .ofVal h (run_binOp ho rfl rfl (eqGuard_skip h2 h3) h5) (.bool _)
  · exact hk

theorem ptrEqC_ok (h : Rel E s w) (hG : GlobOk E G) (ht : TR E t a) {op : BinOp} {neg : Bool} {ty yt : TypeId} {x y : Operand} (ho : o.op = .binOp op ty x y yt) (hop : (op = .eql ∧ neg = false) ∨ (op = .neq ∧ neg = true)) {k : OpF}
    (hk : OpOk P E s w o a (k t s)) : OpOk P E s w o a (ptrEqC (ptrT P ty) neg (evC G x) (evC G y) k t s) := by
  have hx := evC_ok hG ht x
  have hy := evC_ok hG ht y
  unfold ptrEqC
  split
  · rename_i r m q n e1 e2
    rw [e1] at hx
    rw [e2] at hy
    rcases Bool.eq_false_or_eq_true (ptrT P ty && (r.beq q && m.beq n)) with hb | hb
    · rw [cond_of_true hb]
      simp only [Bool.and_eq_true] at hb
      have e3 := Nat.eq_of_beq_eq_true hb.2.1
      have e4 := Nat.eq_of_beq_eq_true hb.2.2
      subst e3 e4
      have hpt := hb.1
      unfold ptrT at hpt
      split at hpt
      · rename_i e hu
        obtain ⟨z, hz⟩ := Option.isSome_iff_exists.1 hpt
        unfold sizeT at hz
        obtain ⟨i, hi, _⟩ := Option.map_eq_some_iff.1 hz
        generalize hv1 : a.eval x = v1 at hx
        generalize hv2 : a.eval y = v2 at hy
        cases hx with
        | ptr off1 l1 =>
          cases hy with
          | ptr off2 l2 =>
            rename_i b base _ _
            rw [l1] at l2
            cases l2
            have heq : ∀ d : Nat, (Op.equalIn (d + 1) ty (.pointer (some ⟨b, base + m, none⟩)) (.pointer (some ⟨b, base + m, none⟩))).run P w = .ok true w := fun d => by
              simp [Op.equalIn, run_underlying hu, sizeOf, typeInfo, hi, run_sameAddr_same]
            have h2 : (Op.equal ty (.pointer (some ⟨b, base + m, none⟩)) (.pointer (some ⟨b, base + m, none⟩))).run P w = .ok true w := heq 9999
            rcases hop with ⟨rfl, rfl⟩ | ⟨rfl, rfl⟩
            · exact .ofVal h (run_binOp ho hv1 hv2 (eqGuard_skip (.inl (by simp)) (by simp)) (r := .bool true) (by simp [binOp, h2])) (.bool _)
            · exact .ofVal h (run_binOp ho hv1 hv2 (eqGuard_skip (.inl (by simp)) (by simp)) (r := .bool false) (by simp [binOp, h2])) (.bool _)
      · cases hpt
    · rw [cond_of_false hb]; trivial
  · exact hk

theorem intsEq_run {a b : List AV} {xs ys : List Value} (ha : VRL E a xs) (hb : VRL E b ys) (d : Nat) : ∀ {fs : List Field} {u : Bool}, intsEq P a b fs = some u → (Op.eqFields (d + 1) ⟨xs⟩ ⟨ys⟩ fs).run P w = .ok u w
  | [], u, h => by simp only [intsEq, Option.some.injEq] at h; subst h; rfl
  | f :: fs, u, h => by
    simp only [intsEq] at h
    split at h
    · rename_i k m k' n e1 e2
      rcases Bool.eq_false_or_eq_true (kindEq k k' && (f.name != "_" && intT P f.type)) with hc | hc
      · rw [cond_of_true hc] at h
        simp only [Bool.and_eq_true] at hc
        have hkk := kindEq_eq hc.1
        subst hkk
        have hname : f.name ≠ "_" := by simpa using hc.2.1
        have hint := hc.2.2
        unfold intT at hint
        split at hint
        · rename_i kd hu
          obtain ⟨v1, h1, h1'⟩ := ha.at_ e1
          obtain ⟨v2, h2, h2'⟩ := hb.at_ e2
          cases h1'
          cases h2'
          have p1 : (part f.type ⟨xs⟩ f.offset).run P w = .ok (.int k m) w := by simp [part, isAgg, run_underlying hu, h1]
          have p2 : (part f.type ⟨ys⟩ f.offset).run P w = .ok (.int k n) w := by simp [part, isAgg, run_underlying hu, h2]
          split at h
          · rename_i u' hu'
            cases h
            have ih := intsEq_run ha hb d hu'
            rw [eqI_eq]
            unfold Op.eqFields
            rw [if_pos hname]
            simp only [Sem.run_bind, p1, p2, Result.andThen_ok, run_equalIn_int w d f.type k kd m n hu]
            by_cases hmn : m = n
            · subst hmn; simp [ih]
            · have : (m == n) = false := by simpa using hmn
              simp [this, hmn]
          · cases h
        · cases hint
      · rw [cond_of_false hc] at h; cases h
    · cases h

theorem structEqC_ok (h : Rel E s w) (hG : GlobOk E G) (ht : TR E t a) {op : BinOp} {neg : Bool} {ty yt : TypeId} {x y : Operand} (ho : o.op = .binOp op ty x y yt) (hop : (op = .eql ∧ neg = false) ∨ (op = .neq ∧ neg = true)) {k : OpF}
    (hk : OpOk P E s w o a (k t s)) : OpOk P E s w o a (structEqC P ty neg (evC G x) (evC G y) k t s) := by
  have hx := evC_ok hG ht x
  have hy := evC_ok hG ht y
  suffices key : ∀ F, structEqC P ty neg (evC G x) (evC G y) k = F → OpOk P E s w o a (F t s) from key _ rfl
  intro F hF
  unfold structEqC at hF
  split at hF
  · rename_i fields hf
    rcases Bool.eq_false_or_eq_true (!P.stoodInHeld ty && !P.eqGuardType P.depth ty) with hb | hb
    · rw [cond_of_true hb] at hF
      subst hF
      simp only [Bool.and_eq_true, Bool.not_eq_true'] at hb
      simp only
      split
      · rename_i l r e1 e2
        rw [e1] at hx
        rw [e2] at hy
        split
        · rename_i u hu
          generalize hv1 : a.eval x = v1 at hx
          generalize hv2 : a.eval y = v2 at hy
          cases hx with
          | agg hx =>
            rename_i xs
            cases hy with
            | agg hy =>
              rename_i ys
              have hfs : P.fieldsOf ty = fields := by unfold Program.fieldsOf; rw [hf]
              have heq : (Op.equalIn 10000 ty (.agg ⟨xs⟩) (.agg ⟨ys⟩)).run P w = .ok u w := by
                rw [show (10000 : Nat) = 9998 + 1 + 1 from rfl, run_equalIn_struct w (9998 + 1) ty ⟨xs⟩ ⟨ys⟩ (by rw [hfs]; exact hf) hb.1, hfs]
                exact intsEq_run hx hy 9998 hu
              rcases hop with ⟨rfl, rfl⟩ | ⟨rfl, rfl⟩
              · exact .ofVal h (run_binOp ho hv1 hv2 (run_eqGuard_agg w _ _ _ _ _ _ hb.2) (r := .bool u) (by rw [run_eql_struct, heq]; rfl)) (.bool _)
              · exact .ofVal h (run_binOp ho hv1 hv2 (run_eqGuard_agg w _ _ _ _ _ _ hb.2) (r := .bool !u) (by rw [run_neq_struct, heq]; rfl)) (.bool _)
        · exact hk
      · exact hk
    · rw [cond_of_false hb] at hF; subst hF; exact hk
  · subst hF; exact hk

theorem elseC_ok (h : Rel E s w) (hG : GlobOk E G) (ht : TR E t a) {op : BinOp} {ty yt : TypeId} {x y : Operand} (ho : o.op = .binOp op ty x y yt) :
    OpOk P E s w o a (elseC P G o op ty (evC G x) (evC G y) t s) := by
  have hp : OpOk P E s w o a (plainC P G o t s) := plainC_ok h hG ht (by intro cs b; rw [ho]; simp)
  cases op <;> first | exact structEqC_ok h hG ht ho (.inl ⟨rfl, rfl⟩) (ptrEqC_ok h hG ht ho (.inl ⟨rfl, rfl⟩) (nilEqC_ok h hG ht ho (.inl ⟨rfl, rfl⟩) hp)) | exact structEqC_ok h hG ht ho (.inr ⟨rfl, rfl⟩) (ptrEqC_ok h hG ht ho (.inr ⟨rfl, rfl⟩) (nilEqC_ok h hG ht ho (.inr ⟨rfl, rfl⟩) hp)) | exact hp

theorem binInt_ok (h : Rel E s w) (hG : GlobOk E G) (ht : TR E t a) {op : BinOp} {ty yt : TypeId} {x y : Operand} (ho : o.op = .binOp op ty x y yt)
    {f : IntKind → Int → Int → AV} (hf : intOp op = some f) : OpOk P E s w o a (binInt (elseC P G o op ty (evC G x) (evC G y)) f (evC G x) (evC G y) t s) := by
  have hx := evC_ok hG ht x
  have hy := evC_ok hG ht y
  unfold binInt
  split
  · rename_i k m k' n e1 e2
    rw [e1] at hx
    rw [e2] at hy
    rcases Bool.eq_false_or_eq_true (kindEq k k') with hk | hk
    · rw [cond_of_true hk]
      have := kindEq_eq hk
      subst this
      generalize hu : a.eval x = u at hx
      generalize hv : a.eval y = v at hy
      cases hx
      cases hy
      obtain ⟨r, h1, h2⟩ := intOp_run (P := P) (E := E) (w := w) hf ty k m n
      exact .ofVal h (run_binOp ho hu hv (eqGuard_int _ _ _ _ _ _ _ _) h1) h2
    · rw [cond_of_false hk]; trivial
  · exact elseC_ok h hG ht ho

theorem strOp_run {op : BinOp} {g : List Nat → List Nat → AV} (hg : strOp op = some g) (ty : TypeId) (x y : ByteArray) :
    ∃ r, VR E (g (x.data.toList.map (·.toNat)) (y.data.toList.map (·.toNat))) r ∧ ((binOp op ty (.string x) (.string y)).run P w = .ok r w ∨ g (x.data.toList.map (·.toNat)) (y.data.toList.map (·.toNat)) = .undef) := by
  cases op <;> simp only [strOp, Option.some.injEq] at hg <;> first | (cases hg; done) | subst hg
  · simp only [List.length_map, Array.length_toList]
    rcases Bool.eq_false_or_eq_true (Nat.ble (x.data.size + y.data.size) 9223372036854775807) with hb | hb
    · rw [cond_of_true hb]
      have hle := Nat.le_of_ble_eq_true hb
      refine ⟨.string (x ++ y), ?_, .inl ?_⟩
      · have : (x.data.toList.map (·.toNat)) ++ (y.data.toList.map (·.toNat)) = ((x ++ y).data.toList.map (·.toNat)) := by simp
        rw [this]; exact .str _
      · have : ¬ (((x.size + y.size : Nat) : Int) > IntKind.i64.max) := by
          have e1 : IntKind.i64.max = 9223372036854775807 := by decide
          rw [e1]
          have e2 : x.size = x.data.size := rfl
          have e3 : y.size = y.data.size := rfl
          omega
        simp only [binOp, Op.stringOp]
        rw [if_neg this]
        rfl
    · rw [cond_of_false hb]
      exact ⟨.nilFunc, .undef _, .inr rfl⟩
  · exact ⟨.bool (x.toList == y.toList), by show VR E (.bool (eqNs _ _)) _; rw [str_eq]; exact .bool _, .inl (by simp [binOp, Op.stringOp])⟩
  · exact ⟨.bool (!(x.toList == y.toList)), by show VR E (.bool (!eqNs _ _)) _; rw [str_eq]; exact .bool _, .inl (by simp [binOp, Op.stringOp])⟩
end
end Go.Am
