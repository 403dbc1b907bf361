/- The operations look at their operands only; what makes a row, makes it anywhere. -/
import Derived.Test.YtaiddjgpnpbckaaGreatDoorAmKind
set_option autoImplicit false
namespace Go.Am

section
variable {P : Program} {G : Glob} {callF : CF} {o : Oper} {t t' : T} {s : St}


theorem evL_dep : ∀ {l : List Operand}, (∀ x ∈ l, evC G x t = evC G x t') → evL G l t = evL G l t'
  | [], _ => rfl
  | x :: l, h => by simp only [evL]; rw [h x (by simp), evL_dep fun y hy => h y (by simp [hy])]

theorem noSel_ne (hs : noSel o = true) : ∀ cs b, o.op ≠ .select cs b := by
  intro cs b e; simp [noSel, e] at hs

theorem plainRun_dep (hs : noSel o = true) (h : ∀ x ∈ o.op.operands, evC G x t = evC G x t') : plainRun P G o t = plainRun P G o t' := by
  unfold plainRun
  rw [evL_dep (t := t) (t' := t') (fun x hx => h x (by simpa using hx))]
  have : execOp (fun x => match toV (evC G x t) with | some v => v | none => .tuple #[]) o = execOp (fun x => match toV (evC G x t') with | some v => v | none => .tuple #[]) o :=
    execOp_congr o (noSel_ne hs) fun x hx => by rw [h x hx]
  cases toVs (evL G o.op.operands.toList t') with
  | none => rfl
  | some _ => exact congrArg (fun z => match still P z with | some (.value v) => ofV v | _ => none) this
theorem plainC_dep (hs : noSel o = true) (h : ∀ x ∈ o.op.operands, evC G x t = evC G x t') : plainC P G o t s = plainC P G o t' s := by
  unfold plainC; rw [plainRun_dep hs h]

variable {a b c d : T → AV}
theorem pickC_dep (h1 : a t = a t') (h2 : b t = b t') (h3 : c t = c t') : pickC a b c t s = pickC a b c t' s := by unfold pickC; rw [h1, h2, h3]
theorem nilCheckC_dep (h : a t = a t') : nilCheckC a t s = nilCheckC a t' s := by unfold nilCheckC; rw [h]
theorem extractC_dep {i : Nat} (h : a t = a t') : extractC i a t s = extractC i a t' s := by unfold extractC; rw [h]
theorem boxC_dep {ty : Nat} (h : a t = a t') : boxC ty a t s = boxC ty a t' s := by unfold boxC; rw [h]
theorem panicC_dep (h : a t = a t') : panicC a t s = panicC a t' s := by unfold panicC; rw [h]
theorem allocC_dep {ty : Nat} {z : Option AV} : allocC ty z t s = allocC ty z t' s := by cases z <;> rfl
theorem loadC_dep {sh : Option (Option Nat)} (h : a t = a t') : loadC sh a t s = loadC sh a t' s := by
  cases sh with
  | none => rfl
  | some n => cases n <;> (simp only [loadC]; rw [h])
theorem storeC_dep {n : Option Nat} (h : a t = a t') (h2 : b t = b t') : storeC n a b t s = storeC n a b t' s := by
  cases n <;> (simp only [storeC, h, h2])
theorem zipParts_dep : ∀ {pl : List (Option (Nat × Nat))} {xs : List (T → AV)}, (∀ x ∈ xs, x t = x t') → zipParts pl xs t = zipParts pl xs t'
  | [], [], _ => rfl
  | [], _ :: _, _ => rfl
  | none :: _, [], _ => rfl
  | none :: _, _ :: _, _ => rfl
  | some _ :: _, [], _ => rfl
  | some p :: pl, x :: xs, h => by
    simp only [zipParts]
    rw [zipParts_dep fun y hy => h y (by simp [hy]), h x (by simp)]
theorem parts_dep {ps : List (Nat × Operand)} (h : ∀ x ∈ ps.map (·.2), evC G x t = evC G x t') : ∀ x ∈ ps.map (fun p => evC G p.2), x t = x t' := by
  intro x hx
  simp only [List.mem_map] at hx
  obtain ⟨p, hp, rfl⟩ := hx
  exact h p.2 (List.mem_map.2 ⟨p, hp, rfl⟩)
theorem buildC_dep {ty : Nat} {ps : List (Nat × Operand)} (h : ∀ x ∈ ps.map (·.2), evC G x t = evC G x t') : buildC P G ty ps t s = buildC P G ty ps t' s := by
  have hz := fun pl => zipParts_dep (pl := pl) (parts_dep h)
  suffices key : ∀ F, buildC P G ty ps = F → F t s = F t' s from key _ rfl
  intro F hF
  unfold buildC at hF
  ((repeat' (split at hF)) <;> (subst hF) <;> (first | rfl | (simp only [hz]; done)))
theorem buildSliceC_dep {ty n : Nat} {ps : List (Nat × Operand)} (h : ∀ x ∈ ps.map (·.2), evC G x t = evC G x t') : buildSliceC P G ty n ps t s = buildSliceC P G ty n ps t' s := by
  have hz := fun pl => zipParts_dep (pl := pl) (parts_dep h)
  suffices key : ∀ F, buildSliceC P G ty n ps = F → F t s = F t' s from key _ rfl
  intro F hF
  unfold buildSliceC at hF
  split at hF
  · split at hF
    · rename_i e _ m z _ _
      rcases Bool.eq_false_or_eq_true (m.beq z.cells.length && Nat.ble (n * m) 16777216 && Nat.blt 0 m) with hb | hb
      · rw [cond_of_true hb] at hF; subst hF; simp only [hz]
      · rw [cond_of_false hb] at hF; subst hF; rfl
    · subst hF; rfl
  · subst hF; rfl
theorem fieldAddrC_dep {ty f : Nat} (h : a t = a t') : fieldAddrC P ty f a t s = fieldAddrC P ty f a t' s := by
  suffices key : ∀ F, fieldAddrC P ty f a = F → F t s = F t' s from key _ rfl
  intro F hF
  unfold fieldAddrC at hF
  ((repeat' (split at hF)) <;> (subst hF) <;> (first | rfl | (simp only [h]; done)))
theorem fieldC_dep {ty f : Nat} (h : a t = a t') : fieldC P ty f a t s = fieldC P ty f a t' s := by
  suffices key : ∀ F, fieldC P ty f a = F → F t s = F t' s from key _ rfl
  intro F hF
  unfold fieldC at hF
  ((repeat' (split at hF)) <;> (subst hF) <;> (first | rfl | (simp only [h]; done)))
theorem indexAddrC_dep {ty : Nat} (h : a t = a t') (h2 : b t = b t') : indexAddrC P ty a b t s = indexAddrC P ty a b t' s := by
  suffices key : ∀ F, indexAddrC P ty a b = F → F t s = F t' s from key _ rfl
  intro F hF
  unfold indexAddrC at hF
  ((repeat' (split at hF)) <;> (subst hF) <;> (first | rfl | (simp only [h, h2]; done)))
theorem indexC_dep {ty : Nat} (h : a t = a t') (h2 : b t = b t') : indexC P ty a b t s = indexC P ty a b t' s := by
  suffices key : ∀ F, indexC P ty a b = F → F t s = F t' s from key _ rfl
  intro F hF
  unfold indexC at hF
  ((repeat' (split at hF)) <;> (subst hF) <;> (first | rfl | (simp only [h, h2]; done)))
theorem optE_dep {x : Option Operand} (h : ∀ y ∈ x, evC G y t = evC G y t') : optE (x.map (evC G)) t = optE (x.map (evC G)) t' := by
  cases x with
  | none => rfl
  | some y => simp only [Option.map, optE]; rw [h y (by simp)]
theorem sliceC_dep {ty : Nat} {x y z : Option Operand} (h : a t = a t') (hx : ∀ w ∈ x, evC G w t = evC G w t') (hy : ∀ w ∈ y, evC G w t = evC G w t') (hz : ∀ w ∈ z, evC G w t = evC G w t') :
    sliceC P ty a (x.map (evC G)) (y.map (evC G)) (z.map (evC G)) t s = sliceC P ty a (x.map (evC G)) (y.map (evC G)) (z.map (evC G)) t' s := by
  have h1 := optE_dep hx
  have h2 := optE_dep hy
  have h3 := optE_dep hz
  suffices key : ∀ F, sliceC P ty a (x.map (evC G)) (y.map (evC G)) (z.map (evC G)) = F → F t s = F t' s from key _ rfl
  intro F hF
  unfold sliceC at hF
  ((repeat' (split at hF)) <;> (subst hF) <;> (first | rfl | (simp only [h, h1, h2, h3]; done)))
theorem makeSliceC_dep {ty : Nat} (h : a t = a t') (h2 : b t = b t') : makeSliceC P ty a b t s = makeSliceC P ty a b t' s := by
  suffices key : ∀ F, makeSliceC P ty a b = F → F t s = F t' s from key _ rfl
  intro F hF
  unfold makeSliceC at hF
  split at hF
  · split at hF
    · rename_i z n b _ _ _
      rcases Bool.eq_false_or_eq_true (n.beq z.cells.length && Nat.ble b 65536) with hb | hb
      · rw [cond_of_true hb] at hF; subst hF; simp only [h, h2]
      · rw [cond_of_false hb] at hF; subst hF; rfl
    · subst hF; rfl
  · subst hF; rfl
theorem lookupC_dep {ty : Nat} {ok : Bool} (h : a t = a t') (h2 : b t = b t') : lookupC P ty a b ok t s = lookupC P ty a b ok t' s := by
  suffices key : ∀ F, lookupC P ty a b ok = F → F t s = F t' s from key _ rfl
  intro F hF
  unfold lookupC at hF
  ((repeat' (split at hF)) <;> (subst hF) <;> (first | rfl | (simp only [h, h2]; done)))
theorem mapUpdateC_dep {ty : Nat} (h : a t = a t') (h2 : b t = b t') (h3 : c t = c t') : mapUpdateC P ty a b c t s = mapUpdateC P ty a b c t' s := by
  suffices key : ∀ F, mapUpdateC P ty a b c = F → F t s = F t' s from key _ rfl
  intro F hF
  unfold mapUpdateC at hF
  ((repeat' (split at hF)) <;> (subst hF) <;> (first | rfl | (simp only [h, h2, h3]; done)))
theorem typeAssertC_dep {ty : Nat} {ok : Bool} (h : a t = a t') : typeAssertC P a ty ok t s = typeAssertC P a ty ok t' s := by
  suffices key : ∀ F, typeAssertC P a ty ok = F → F t s = F t' s from key _ rfl
  intro F hF
  unfold typeAssertC at hF
  ((repeat' (split at hF)) <;> (subst hF) <;> (first | rfl | (simp only [h]; done)))
theorem makeInterfaceC_dep {ty : Nat} (h : a t = a t') : makeInterfaceC P ty a t s = makeInterfaceC P ty a t' s := by
  suffices key : ∀ F, makeInterfaceC P ty a = F → F t s = F t' s from key _ rfl
  intro F hF
  unfold makeInterfaceC at hF
  ((repeat' (split at hF)) <;> (subst hF) <;> (first | rfl | (simp only [h]; done)))
theorem appendC_dep {ty tx : Nat} (h : a t = a t') (h2 : b t = b t') : appendC P ty tx a b t s = appendC P ty tx a b t' s := by
  suffices key : ∀ F, appendC P ty tx a b = F → F t s = F t' s from key _ rfl
  intro F hF
  unfold appendC at hF
  rcases Bool.eq_false_or_eq_true (seqT P tx) with hb | hb
  · rw [cond_of_true hb] at hF
    split at hF
    · split at hF
      · rename_i n b z _ _ _
        rcases Bool.eq_false_or_eq_true (Nat.ble b 65536 && n.beq z.cells.length) with hq | hq
        · rw [cond_of_true hq] at hF; subst hF; simp only [h, h2]
        · rw [cond_of_false hq] at hF; subst hF; rfl
      · subst hF; rfl
    · subst hF; rfl
  · rw [cond_of_false hb] at hF; subst hF; rfl
theorem lenC_dep {ty : Nat} (h : a t = a t') : lenC P ty a t s = lenC P ty a t' s := by
  suffices key : ∀ F, lenC P ty a = F → F t s = F t' s from key _ rfl
  intro F hF
  unfold lenC at hF
  ((repeat' (split at hF)) <;> (subst hF) <;> (first | rfl | (simp only [h]; done)))
theorem capC_dep {ty : Nat} (h : a t = a t') : capC P ty a t s = capC P ty a t' s := by
  suffices key : ∀ F, capC P ty a = F → F t s = F t' s from key _ rfl
  intro F hF
  unfold capC at hF
  ((repeat' (split at hF)) <;> (subst hF) <;> (first | rfl | (simp only [h]; done)))
theorem copyC_dep {ty : Nat} (h : a t = a t') (h2 : b t = b t') : copyC P ty a b t s = copyC P ty a b t' s := by
  suffices key : ∀ F, copyC P ty a b = F → F t s = F t' s from key _ rfl
  intro F hF
  unfold copyC at hF
  ((repeat' (split at hF)) <;> (subst hF) <;> (first | rfl | (simp only [h, h2]; done)))
theorem structEqC_dep {ty : Nat} {neg : Bool} {k : OpF} (h : a t = a t') (h2 : b t = b t') (hk : k t s = k t' s) : structEqC P ty neg a b k t s = structEqC P ty neg a b k t' s := by
  suffices key : ∀ F, structEqC P ty neg a b k = F → F t s = F t' s from key _ rfl
  intro F hF
  unfold structEqC at hF
  split at hF
  · rename_i fields hf
    rcases Bool.eq_false_or_eq_true (!P.stoodInHeld ty && !P.eqGuardType P.depth ty) with hb | hb
    · rw [cond_of_true hb] at hF; subst hF; simp only [h, h2, hk]
    · rw [cond_of_false hb] at hF; subst hF; exact hk
  · subst hF; exact hk
theorem elseC_dep {op : BinOp} {ty : Nat} (hp : plainC P G o t s = plainC P G o t' s) (h : a t = a t') (h2 : b t = b t') : elseC P G o op ty a b t s = elseC P G o op ty a b t' s := by
  suffices key : ∀ F, elseC P G o op ty a b = F → F t s = F t' s from key _ rfl
  intro F hF
  unfold elseC at hF
  split at hF <;> subst hF <;> first | exact hp | (refine structEqC_dep h h2 ?_; simp only [ptrEqC, nilEqC, h, h2, hp])
theorem binInt_dep {f : IntKind → Int → Int → AV} {k : OpF} (hp : k t s = k t' s) (h : a t = a t') (h2 : b t = b t') : binInt k f a b t s = binInt k f a b t' s := by
  unfold binInt; simp only [h, h2, hp]
theorem binC_dep {op : BinOp} {ty : Nat} (hp : plainC P G o t s = plainC P G o t' s) (h : a t = a t') (h2 : b t = b t') : binC P G o op ty a b t s = binC P G o op ty a b t' s := by
  have he := elseC_dep (op := op) (ty := ty) hp h h2
  suffices key : ∀ F, binC P G o op ty a b = F → F t s = F t' s from key _ rfl
  intro F hF
  unfold binC at hF
  split at hF
  · rename_i f _ _ _
    subst hF; simp only [h, h2, binInt_dep (f := f) he h h2]
  · subst hF; exact binInt_dep he h h2
  · subst hF; exact hp
theorem convertC_dep {src dst : Nat} (hp : plainC P G o t s = plainC P G o t' s) (h : a t = a t') : convertC P G o src dst a t s = convertC P G o src dst a t' s := by
  suffices key : ∀ F, convertC P G o src dst a = F → F t s = F t' s from key _ rfl
  intro F hF
  unfold convertC at hF
  (repeat' (split at hF)) <;> (subst hF) <;> (first | rfl | exact hp | (simp only [h]; done))

theorem convC_dep {src dst : Nat} (hp : plainC P G o t s = plainC P G o t' s) (h : a t = a t') : convC P G o src dst a t s = convC P G o src dst a t' s := by
  suffices key : ∀ F, convC P G o src dst a = F → F t s = F t' s from key _ rfl
  intro F hF
  unfold convC at hF
  split at hF <;> subst hF
  · suffices key : ∀ F, toUnsafeC P _ a = F → F t s = F t' s from key _ rfl
    intro F hF
    unfold toUnsafeC at hF
    ((repeat' (split at hF)) <;> (subst hF) <;> (first | rfl | (simp only [h]; done)))
  · suffices key : ∀ F, fromUnsafeC P _ a = F → F t s = F t' s from key _ rfl
    intro F hF
    unfold fromUnsafeC at hF
    ((repeat' (split at hF)) <;> (subst hF) <;> (first | rfl | (simp only [h]; done)))
  · exact convertC_dep hp h

theorem unsafeStringC_dep {pt : TypeId} {x : T → AV} (h : a t = a t') (h2 : x t = x t') : unsafeStringC P pt a x t s = unsafeStringC P pt a x t' s := by
  suffices key : ∀ F, unsafeStringC P pt a x = F → F t s = F t' s from key _ rfl
  intro F hF
  unfold unsafeStringC at hF
  split at hF
  · split at hF
    · subst hF; simp only [h, h2]
    · subst hF; rfl
  · subst hF; rfl
theorem sliceDataC_dep (h : a t = a t') : sliceDataC a t s = sliceDataC a t' s := by unfold sliceDataC; rw [h]

theorem opC_dep (hs : noSel o = true) (h : ∀ x ∈ o.op.operands, evC G x t = evC G x t') : opC P G callF o t s = opC P G callF o t' s := by
  have hp : plainC P G o t s = plainC P G o t' s := plainC_dep hs h
  suffices key : ∀ F, opC P G callF o = F → F t s = F t' s from key _ rfl
  intro F hF
  unfold opC at hF
  split at hF <;> subst hF
  case h_31 => rfl
  all_goals rename_i ho
  all_goals (rewrite [ho] at h; simp only [Op.operands] at h)
  case h_1 _ x => have h1 := h x (by simp); simp only [h1]
  case h_2 _ x => have h1 := h x (by simp); simp only [h1]
  case h_3 => exact pickC_dep (h _ (by simp)) (h _ (by simp)) (h _ (by simp))
  case h_4 => exact allocC_dep
  case h_5 => exact boxC_dep (h _ (by simp))
  case h_6 => exact buildC_dep fun x hx => h x (by simpa using hx)
  case h_7 => exact buildSliceC_dep fun x hx => h x (by simpa using hx)
  case h_8 => exact loadC_dep (h _ (by simp))
  case h_9 => exact storeC_dep (h _ (by simp)) (h _ (by simp))
  case h_10 => exact nilCheckC_dep (h _ (by simp))
  case h_11 => exact fieldAddrC_dep (h _ (by simp))
  case h_12 => exact fieldC_dep (h _ (by simp))
  case h_13 => exact indexAddrC_dep (h _ (by simp)) (h _ (by simp))
  case h_14 => exact indexC_dep (h _ (by simp)) (h _ (by simp))
  case h_15 =>
    refine sliceC_dep (h _ (by simp)) (fun w hw => h w ?_) (fun w hw => h w ?_) (fun w hw => h w ?_) <;> (have := Option.mem_def.1 hw; simp [this])
  case h_16 => exact extractC_dep (h _ (by simp))
  case h_17 =>
    simp only
    rw [evL_dep (t := t) (t' := t') fun x hx => h x (by simp; exact .inl (by simpa using hx)), evL_dep (t := t) (t' := t') fun x hx => h x (by simp; exact .inr (by simpa using hx))]
  case h_18 => exact makeInterfaceC_dep (h _ (by simp))
  case h_19 => exact makeSliceC_dep (h _ (by simp)) (h _ (by simp))
  case h_20 => rfl
  case h_21 => exact lookupC_dep (h _ (by simp)) (h _ (by simp))
  case h_22 => exact mapUpdateC_dep (h _ (by simp)) (h _ (by simp)) (h _ (by simp))
  case h_23 => exact typeAssertC_dep (h _ (by simp))
  case h_24 => exact panicC_dep (h _ (by simp))
  case h_25 => exact binC_dep hp (h _ (by simp)) (h _ (by simp))
  case h_26 => exact hp
  case h_27 => exact convC_dep hp (h _ (by simp))
  case h_28 _ f args ts =>
    have h1 : evL G args.toList t = evL G args.toList t' := evL_dep fun x hx => h x (by simp [Call.operands]; exact .inr (by simpa using hx))
    have h2 : evC G f t = evC G f t' := h f (by simp [Call.operands])
    unfold callC
    cases f <;> simp only [h1, h2]
  case h_29 _ b args ts =>
    have h1 : ∀ x ∈ args.toList, evC G x t = evC G x t' := fun x hx => h x (by simp [Call.operands]; simpa using hx)
    suffices key : ∀ F, builtinC P G o b args.toList ts.toList = F → F t s = F t' s from key _ rfl
    intro F hF
    unfold builtinC at hF
    split at hF <;> subst hF <;> (try rename_i e1 e2) <;> first
      | (rw [e1] at h1; exact appendC_dep (h1 _ (by simp)) (h1 _ (by simp)))
      | (rw [e1] at h1; exact lenC_dep (h1 _ (by simp)))
      | (rw [e1] at h1; exact capC_dep (h1 _ (by simp)))
      | (rw [e1] at h1; exact copyC_dep (h1 _ (by simp)) (h1 _ (by simp)))
      | (rw [e1] at h1; exact sliceDataC_dep (h1 _ (by simp)))
      | (rw [e1] at h1; exact unsafeStringC_dep (h1 _ (by simp)) (h1 _ (by simp)))
      | rfl
      | exact hp
  case h_30 _ f args ts =>
    have h1 : evL G args.toList t = evL G args.toList t' := evL_dep fun x hx => h x (by simp [Call.operands]; exact .inr (by simpa using hx))
    have h2 : evC G f t = evC G f t' := h f (by simp [Call.operands])
    simp only [deferC, h1, h2]
end
end Go.Am
