/- The operations, on both sides: slices, indexes, interface values, calls. -/
import Derived.Test.YtaiddjgpnpbckaaGreatDoorAmOp4
import Derived.Lib.Strings
set_option autoImplicit false
namespace Go.Am

section
variable {P : Program} {G : Glob} {E : Env} {s : St} {w : World} {t : T} {a : Act} {o : Oper}

theorem indexC_ok (h : Rel E s w) (hG : GlobOk E G) (ht : TR E t a) {ty : TypeId} {x i : Operand} (ho : o.op = .index ty x i) : OpOk P E s w o a (indexC P ty (evC G x) (evC G i) t s) := by
  have hx := evC_ok hG ht x
  have hi := evC_ok hG ht i
  generalize hv : a.eval x = v at hx
  generalize hiv : a.eval i = iv at hi
  unfold indexC
  cases hu : P.underlying ty with
  | none => trivial
  | some d =>
    cases d with
    | string =>
      simp only
      split
      · rename_i k l e1 e2
        obtain ⟨kk, rfl⟩ := natOf_ok e1 hi
        rw [e2] at hx
        split
        · rename_i b hb
          cases hx with
          | str bs =>
            rw [List.getElem?_map] at hb
            cases hbs : bs.data.toList[k]? with
            | none => rw [hbs] at hb; cases hb
            | some c =>
              rw [hbs] at hb
              cases hb
              refine .ofVal h (v := .int .u8 c.toNat) ?_ (.int _ _)
              have hk : bs[k]? = some c := by
                have h1 : k < bs.data.size := by
                  rcases Nat.lt_or_ge k bs.data.size with h1 | h1
                  · exact h1
                  · rw [List.getElem?_eq_none (by simpa using h1)] at hbs; cases hbs
                rw [getElem?_pos bs k h1]
                rw [List.getElem?_eq_getElem (by simpa using h1)] at hbs
                exact congrArg some (show bs.data[k] = c by simpa using hbs)
              simp [execOp, ho, hv, hiv, Instr.index, asIntOf, run_underlying hu, hk]
        · trivial
      · trivial
    | array len e =>
      cases hs : shapeT P e with
      | none => simp only [hs]; trivial
      | some sh =>
        cases sh with
        | some n =>
          simp only [hs]
          split
          · rename_i k cs e1 e2
            obtain ⟨kk, rfl⟩ := natOf_ok e1 hi
            rw [e2] at hx
            rcases Bool.eq_false_or_eq_true (Nat.blt k len) with hb | hb
            · rw [cond_of_true hb]
              have hlt : k < len := Nat.le_of_ble_eq_true hb
              cases hx with
              | agg hc =>
                refine aggO_ok h fun y hy => ?_
                obtain ⟨k1, k2⟩ := shapeT_agg hs
                obtain ⟨us, e3, e4⟩ := part_agg (P := P) k1 k2 hc hy w
                exact ⟨_, by simp [execOp, ho, hv, hiv, Instr.index, asIntOf, run_underlying hu, sizeT_run k2, hlt, e3], .agg e4⟩
            · rw [cond_of_false hb]; trivial
          · trivial
        | none =>
          cases hn : sizeT P e with
          | none => simp only [hs, hn]; trivial
          | some n =>
            simp only [hs, hn]
            split
            · rename_i k cs e1 e2
              obtain ⟨kk, rfl⟩ := natOf_ok e1 hi
              rw [e2] at hx
              rcases Bool.eq_false_or_eq_true (Nat.blt k len) with hb | hb
              · rw [cond_of_true hb]
                have hlt : k < len := Nat.le_of_ble_eq_true hb
                cases hx with
                | agg hc =>
                  refine valO_ok h fun y hy => ?_
                  obtain ⟨u, e3, e4⟩ := part_one (P := P) (shapeT_one hs) hc hy w
                  exact ⟨_, by simp [execOp, ho, hv, hiv, Instr.index, asIntOf, run_underlying hu, sizeT_run hn, hlt, e3], e4⟩
              · rw [cond_of_false hb]; trivial
            · trivial
    | _ => trivial

theorem bound_ok {x : Option Operand} (hG : GlobOk E G) (ht : TR E t a) {d n : Nat} (h : bound d (optE (x.map (evC G)) t) = some n) :
    (x = none ∧ n = d) ∨ ∃ y k, x = some y ∧ a.eval y = .int k n := by
  cases x with
  | none => simp [optE, bound] at h; exact .inl ⟨rfl, h.symm⟩
  | some y =>
    simp only [Option.map_some, optE, bound] at h
    obtain ⟨k, hk⟩ := natOf_ok h (evC_ok hG ht y)
    exact .inr ⟨y, k, rfl, hk⟩

theorem run_sliceBound {k : IntKind} {n y : Nat} (code : BoundsCode) (h : n ≤ y) (w : World) : (Instr.sliceBound (.int k n) y code).run P w = .ok n w := by
  simp [Instr.sliceBound, asIntOf, h]

theorem run_sliceBounds (isSlice : Bool) {len cap l h m : Nat} {lo hi mx : Option Value} (hlo : (lo = none ∧ l = 0) ∨ ∃ k, lo = some (.int k l)) (hhi : (hi = none ∧ h = len) ∨ ∃ k, hi = some (.int k h))
    (hmx : (mx = none ∧ m = cap) ∨ ∃ k, mx = some (.int k m) ∧ hi.isSome = true) (h1 : l ≤ h) (h2 : h ≤ m) (h3 : m ≤ cap) (w : World) :
    (Instr.sliceBounds isSlice len cap lo hi mx).run P w = .ok (l, h, m) w := by
  unfold Instr.sliceBounds
  rcases hlo with ⟨rfl, rfl⟩ | ⟨k1, rfl⟩ <;> rcases hhi with ⟨rfl, rfl⟩ | ⟨k2, rfl⟩ <;> rcases hmx with ⟨rfl, rfl⟩ | ⟨k3, rfl, hs⟩ <;>
    simp_all [run_sliceBound]

theorem maxb_ok {x hi : Option Operand} (hG : GlobOk E G) (ht : TR E t a) {m : AV} {mi : Nat} (h : optE (x.map (evC G)) t = some m) (hm : natOf m = some mi) {y : AV} (hy : optE (hi.map (evC G)) t = some y) :
    ∃ k, x.map a.eval = some (.int k mi) ∧ (hi.map a.eval).isSome = true := by
  cases x with
  | none => simp [optE] at h
  | some x =>
    simp only [Option.map_some, optE, Option.some.injEq] at h
    subst h
    obtain ⟨k, hk⟩ := natOf_ok hm (evC_ok hG ht x)
    cases hi with
    | none => simp [optE] at hy
    | some z => exact ⟨k, by simp [hk], rfl⟩

/-- What slicing gives, of a slice. -/
theorem sliceA_ok (hG : GlobOk E G) (ht : TR E t a) {es : Nat} {x y : AV} {lo hi mx : Option Operand} (hx : ∀ b, x ≠ .str b)
    (h : sliceA es x (optE (lo.map (evC G)) t) (optE (hi.map (evC G)) t) (optE (mx.map (evC G)) t) = some y) {v : Value} (hv : VR E x v) (isSlice : Bool) (w : World) :
    ∃ (ad : Option Addr) (len cap l hh m : Nat), v = .slice ad len cap ∧ (Instr.sliceBounds isSlice len cap (lo.map a.eval) (hi.map a.eval) (mx.map a.eval)).run P w = .ok (l, hh, m) w ∧
      VR E y (.slice (if m = l then ad else ad.map (·.add (l * es))) (hh - l) (m - l)) := by
  have hlo : ∀ {n : Nat}, bound 0 (optE (lo.map (evC G)) t) = some n → (lo.map a.eval = none ∧ n = 0) ∨ ∃ k, lo.map a.eval = some (.int k n) := by
    intro n hn
    rcases bound_ok hG ht hn with ⟨rfl, h2⟩ | ⟨y, k, rfl, h3⟩
    · exact .inl ⟨rfl, h2⟩
    · exact .inr ⟨k, by simp [h3]⟩
  have hhi : ∀ {d n : Nat}, bound d (optE (hi.map (evC G)) t) = some n → (hi.map a.eval = none ∧ n = d) ∨ ∃ k, hi.map a.eval = some (.int k n) := by
    intro d n hn
    rcases bound_ok hG ht hn with ⟨rfl, h2⟩ | ⟨y, k, rfl, h3⟩
    · exact .inl ⟨rfl, h2⟩
    · exact .inr ⟨k, by simp [h3]⟩
  have hnone : optE (mx.map (evC G)) t = none → mx.map a.eval = none := by
    intro hn; cases mx with
    | none => rfl
    | some z => simp [optE] at hn
  unfold sliceA at h
  split at h
  · rename_i b; exact absurd rfl (hx b)
  · rename_i cs len tight nl
    split at h
    · rename_i l hh hl hhh
      rcases Bool.eq_false_or_eq_true (Nat.ble l hh && Nat.ble hh len) with hb | hb
      · rw [cond_of_true hb] at h
        rw [Bool.and_eq_true] at hb
        have h1 := Nat.le_of_ble_eq_true hb.1
        have h2 := Nat.le_of_ble_eq_true hb.2
        cases hv with
        | lst hcs hle htt hn hc hz =>
          rename_i vs cap ad
          -- the cells of the cut
          have fin : ∀ (m : Nat) (tight' : Bool), hh ≤ m → m ≤ cap → (tight' = true → m = hh) →
              VR E (.lst ((cs.drop (l * es)).take ((hh - l) * es)) (hh - l) tight' nl) (.slice (if m = l then ad else ad.map (·.add (l * es))) (hh - l) (m - l)) := by
            intro m tight' hm1 hm2 hm3
            refine .lst ((hcs.drop (l * es)).take ((hh - l) * es)) (by omega) (fun e => by rw [hm3 e]) ?_ ?_ ?_
            · rw [← hn]; split <;> cases ad <;> rfl
            · intro e
              have : ad = none := by
                split at e
                · exact e
                · cases ad with
                  | none => rfl
                  | some _ => cases e
              have := hc this
              omega
            · intro hne
              have hml : m ≠ l := by
                rintro rfl
                have : hh - m = 0 := by omega
                rw [this] at hne
                simp at hne
              have hvs : vs ≠ [] := by rintro rfl; simp at hne
              obtain ⟨b, base, e1, e2⟩ := hz hvs
              subst e1
              rw [if_neg hml]
              refine ⟨b, base + l * es, by simp [Addr.add_lit], fun i v hi2 => ?_⟩
              rw [List.getElem?_take] at hi2
              split at hi2
              · rw [List.getElem?_drop] at hi2
                rw [Nat.add_assoc]; exact e2 _ v hi2
              · cases hi2
          split at h
          · rename_i hm
            cases h
            exact ⟨ad, len, cap, l, hh, cap, rfl, run_sliceBounds isSlice (hlo hl) (hhi hhh) (.inl ⟨hnone hm, rfl⟩) h1 (by omega) (Nat.le_refl _) w,
              fin cap _ (by omega) (Nat.le_refl _) (fun e => by rw [Bool.and_eq_true] at e; have := Nat.eq_of_beq_eq_true e.2; rw [htt e.1]; exact this.symm)⟩
          · rename_i mm yy hm hy2
            split at h
            · rename_i mi hmi
              rcases Bool.eq_false_or_eq_true (mi.beq hh) with hq | hq
              · rw [cond_of_true hq] at h
                have := Nat.eq_of_beq_eq_true hq
                subst this
                cases h
                obtain ⟨k, e1, e2⟩ := maxb_ok hG ht hm hmi hy2
                exact ⟨ad, len, cap, l, mi, mi, rfl, run_sliceBounds isSlice (hlo hl) (hhi hhh) (.inr ⟨k, e1, e2⟩) h1 (Nat.le_refl _) (by omega) w, fin mi true (Nat.le_refl _) (by omega) (fun _ => rfl)⟩
              · rw [cond_of_false hq] at h; cases h
            · cases h
          · cases h
      · rw [cond_of_false hb] at h; cases h
    · cases h
  · rename_i r off len es' tight
    split at h
    · rename_i l hh hl hhh
      rcases Bool.eq_false_or_eq_true (Nat.ble l hh && Nat.ble hh len && es.beq es') with hb | hb
      · rw [cond_of_true hb] at h
        rw [Bool.and_eq_true, Bool.and_eq_true] at hb
        have h1 := Nat.le_of_ble_eq_true hb.1.1
        have h2 := Nat.le_of_ble_eq_true hb.1.2
        have hes := Nat.eq_of_beq_eq_true hb.2
        subst hes
        cases hv with
        | sl hl0 hle htt hc =>
          rename_i b base cap ad
          have fin : ∀ (m : Nat) (tight' : Bool), hh ≤ m → m ≤ cap → (tight' = true → m = hh) →
              VR E (.sl r (off + l * es) (hh - l) es tight') (.slice (if m = l then ad else ad.map (·.add (l * es))) (hh - l) (m - l)) := by
            intro m tight' hm1 hm2 hm3
            refine .sl hl0 (by omega) (fun e => by rw [hm3 e]) (fun hpos => ?_)
            obtain ⟨e1, e2⟩ := hc (by omega)
            subst e1
            rw [if_neg (by omega)]
            refine ⟨by simp [Addr.add_lit, Nat.add_assoc], ?_⟩
            have hmul : m * es ≤ cap * es := Nat.mul_le_mul_right _ hm2
            have hsub : (m - l) * es + l * es = m * es := by rw [← Nat.add_mul]; congr 1; omega
            omega
          split at h
          · rename_i hm
            cases h
            exact ⟨ad, len, cap, l, hh, cap, rfl, run_sliceBounds isSlice (hlo hl) (hhi hhh) (.inl ⟨hnone hm, rfl⟩) h1 (by omega) (Nat.le_refl _) w,
              fin cap _ (by omega) (Nat.le_refl _) (fun e => by rw [Bool.and_eq_true] at e; have := Nat.eq_of_beq_eq_true e.2; rw [htt e.1]; exact this.symm)⟩
          · rename_i mm yy hm hy2
            split at h
            · rename_i mi hmi
              rcases Bool.eq_false_or_eq_true (mi.beq hh) with hq | hq
              · rw [cond_of_true hq] at h
                have := Nat.eq_of_beq_eq_true hq
                subst this
                cases h
                obtain ⟨k, e1, e2⟩ := maxb_ok hG ht hm hmi hy2
                exact ⟨ad, len, cap, l, mi, mi, rfl, run_sliceBounds isSlice (hlo hl) (hhi hhh) (.inr ⟨k, e1, e2⟩) h1 (Nat.le_refl _) (by omega) w, fin mi true (Nat.le_refl _) (by omega) (fun _ => rfl)⟩
              · rw [cond_of_false hq] at h; cases h
            · cases h
          · cases h
      · rw [cond_of_false hb] at h; cases h
    · cases h
  · cases h

theorem sliceStr_ok (hG : GlobOk E G) (ht : TR E t a) {es : Nat} {b : List Nat} {y : AV} {lo hi mx : Option Operand}
    (h : sliceA es (.str b) (optE (lo.map (evC G)) t) (optE (hi.map (evC G)) t) (optE (mx.map (evC G)) t) = some y) {v : Value} (hv : VR E (.str b) v) (w : World) :
    ∃ (bs : ByteArray) (l hh m : Nat), v = .string bs ∧ mx = none ∧ (Instr.sliceBounds false bs.size bs.size (lo.map a.eval) (hi.map a.eval) none).run P w = .ok (l, hh, m) w ∧
      VR E y (.string (bs.extract l hh)) := by
  cases hv with
  | str bs =>
    simp only [sliceA] at h
    split at h
    · rename_i l hh hl hhh hm
      rcases Bool.eq_false_or_eq_true (Nat.ble l hh && Nat.ble hh (bs.data.toList.map (·.toNat)).length) with hb | hb
      · rw [cond_of_true hb] at h
        rw [Bool.and_eq_true] at hb
        have h1 := Nat.le_of_ble_eq_true hb.1
        have h2 := Nat.le_of_ble_eq_true hb.2
        simp only [List.length_map, Array.length_toList] at h2
        cases h
        have hsz : bs.size = bs.data.size := rfl
        refine ⟨bs, l, hh, bs.size, rfl, ?_, run_sliceBounds false ?_ ?_ (.inl ⟨rfl, rfl⟩) h1 (by omega) (Nat.le_refl _) w, ?_⟩
        · cases mx with
          | none => rfl
          | some z => simp [optE] at hm
        · rcases bound_ok hG ht hl with ⟨rfl, h3⟩ | ⟨y, k, rfl, h3⟩
          · exact .inl ⟨rfl, h3⟩
          · exact .inr ⟨k, by simp [h3]⟩
        · rcases bound_ok hG ht hhh with ⟨rfl, h3⟩ | ⟨y, k, rfl, h3⟩
          · exact .inl ⟨rfl, by rw [h3, hsz, List.length_map, Array.length_toList]⟩
          · exact .inr ⟨k, by simp [h3]⟩
        · have e : ((bs.data.toList.map (·.toNat)).drop l).take (hh - l) = ((bs.extract l hh).data.toList.map (·.toNat)) := by
            rw [Lib.extract_data]
            simp [List.map_take, List.map_drop]
          rw [e]; exact .str _
      · rw [cond_of_false hb] at h; cases h
    · cases h
end
end Go.Am
