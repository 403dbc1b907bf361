import Derived.Test.YtlibahklbbachaaGreatDoorTx3
set_option autoImplicit false
set_option maxRecDepth 100000
set_option linter.unusedSimpArgs false
set_option linter.unusedVariables false
section
namespace Go.Am
mutual
theorem AV.same_eq : ∀ {a b : AV}, AV.same a b = true → a = b
  | .int k a, b, h => by
    cases b <;> simp [AV.same] at h
    rw [kindEq_eq h.1]; have := h.2; rw [eqI_eq] at this; simp at this; rw [this]
  | .bool a, b, h => by cases b <;> simp [AV.same] at h; rename_i b; cases a <;> cases b <;> simp_all
  | .str l, b, h => by cases b <;> simp [AV.same] at h; rw [eqNs_eq] at h; simp at h; rw [h]
  | .nilp, b, h => by cases b <;> simp [AV.same] at h; rfl
  | .ptr r a, b, h => by cases b <;> simp [AV.same] at h; rw [h.1, h.2]
  | .ptrL l a, b, h => by cases b <;> simp [AV.same] at h; rw [h.1, AV.sames_eq h.2]
  | .sl r a b c d, x, h => by
    cases x <;> simp [AV.same] at h
    rename_i r' a' b' c' d'
    obtain ⟨rfl, rfl, rfl, rfl, h5⟩ := h
    cases d <;> cases d' <;> simp_all
  | .lst l a b c, x, h => by
    cases x <;> simp [AV.same] at h
    rename_i l' a' b' c'
    obtain ⟨rfl, h2, h3, h4⟩ := h
    have := AV.sames_eq h4
    cases b <;> cases b' <;> cases c <;> cases c' <;> simp_all
  | .mp none, .mp none, _ => rfl
  | .mp (some a), .mp (some b), h => by simp [AV.same] at h; rw [h]
  | .mp none, .mp (some b), h => by simp [AV.same] at h
  | .mp (some a), .mp none, h => by simp [AV.same] at h
  | .fn f a b, x, h => by
    cases x <;> try (cases f <;> simp [AV.same] at h; done)
    rename_i g c d
    cases f <;> cases g <;> simp [AV.same] at h
    rw [h.1, AV.sames_eq h.2.1, AV.sames_eq h.2.2]
  | .hptr a, b, h => by cases b <;> simp [AV.same] at h; rw [h]
  | .nilfn, b, h => by cases b <;> simp [AV.same] at h; rfl
  | .ifc t a, b, h => by cases b <;> simp [AV.same] at h; rw [h.1, AV.same_eq h.2]
  | .nilifc, b, h => by cases b <;> simp [AV.same] at h; rfl
  | .agg a, b, h => by cases b <;> simp [AV.same] at h; rw [AV.sames_eq h]
  | .tup a, b, h => by cases b <;> simp [AV.same] at h; rw [AV.sames_eq h]
  | .lit _, b, h => by cases b <;> simp [AV.same] at h
  | .undef, b, h => by cases b <;> simp [AV.same] at h
theorem AV.sames_eq : ∀ {a b : List AV}, AV.sames a b = true → a = b
  | [], [], _ => rfl
  | [], _ :: _, h => by simp [AV.sames] at h
  | _ :: _, [], h => by simp [AV.sames] at h
  | a :: l, b :: m, h => by simp [AV.sames] at h; rw [AV.same_eq h.1, AV.sames_eq h.2]
end
def Nx.at (s' : St) : Nx → Nx
  | .val v _ => .val v s'
  | .skip _ => .skip s'
  | .dfr f a _ => .dfr f a s'
  | .panic v _ => .panic v s'
  | .fail => .fail
def Free (F : OpF) : Prop := ∀ t s s', F t s' = (F t s).at s'
theorem Free.val {F : OpF} (h : Free F) {t : T} {s s1 : St} {v : AV} (e : F t s = .val v s1) : s1 = s ∧ ∀ s', F t s' = .val v s' := by
  constructor
  · have := h t s s; rw [e] at this; simpa [Nx.at] using this
  · intro s'; rw [h t s s', e]; rfl
section
variable {P : Program} {G : Glob} {callF : CF} {o : Oper}
theorem at_cond (s' : St) (c : Bool) (a b : Nx) : Nx.at s' (bif c then a else b) = bif c then a.at s' else b.at s' := by cases c <;> rfl
theorem at_valO (s s' : St) (x : Option AV) : Nx.at s' (valO x s) = valO x s' := by cases x <;> rfl
theorem at_aggO (s s' : St) (x : Option (List AV)) : Nx.at s' (aggO x s) = aggO x s' := by cases x <;> rfl
theorem at_defO (s s' : St) (x : AV) : Nx.at s' (defO x s) = defO x s' := by cases x <;> rfl
theorem at_val (s s' : St) (x : AV) : Nx.at s' (.val x s) = .val x s' := rfl
theorem at_fail (s' : St) : Nx.at s' .fail = .fail := rfl
theorem valO_free (f : T → Option AV) : Free fun t s => valO (f t) s := fun _ _ _ => (at_valO _ _ _).symm
theorem failC_free : Free failC := fun _ _ _ => rfl
theorem plainC_free : Free (plainC P G o) := valO_free _
theorem pickC_free (c a b : T → AV) : Free (pickC c a b) := by intro t s s'; unfold pickC; ((try dsimp only) <;> (repeat' (first | rfl | (simp only [at_cond, at_valO, at_aggO, at_val, at_fail, at_defO]; done) | split)) <;> (first | done | (simp_all only [at_cond, at_valO, at_aggO, at_val, at_fail, at_defO]; done) | simp_all [at_cond, at_valO, at_aggO, at_val, at_fail, at_defO]))
theorem nilCheckC_free (x : T → AV) : Free (nilCheckC x) := by intro t s s'; unfold nilCheckC; ((try dsimp only) <;> (repeat' (first | rfl | (simp only [at_cond, at_valO, at_aggO, at_val, at_fail, at_defO]; done) | split)) <;> (first | done | (simp_all only [at_cond, at_valO, at_aggO, at_val, at_fail, at_defO]; done) | simp_all [at_cond, at_valO, at_aggO, at_val, at_fail, at_defO]))
theorem extractC_free (i : Nat) (x : T → AV) : Free (extractC i x) := by intro t s s'; unfold extractC; ((try dsimp only) <;> (repeat' (first | rfl | (simp only [at_cond, at_valO, at_aggO, at_val, at_fail, at_defO]; done) | split)) <;> (first | done | (simp_all only [at_cond, at_valO, at_aggO, at_val, at_fail, at_defO]; done) | simp_all [at_cond, at_valO, at_aggO, at_val, at_fail, at_defO]))
theorem fieldAddrC_free (ty f : Nat) (x : T → AV) : Free (fieldAddrC P ty f x) := by
  intro t s s'
  unfold fieldAddrC
  cases P.underlying ty with
  | none => rfl
  | some d => cases d with
    | struct fields => cases h : fields[f]? with
      | none => simp only [h]; rfl
      | some fd => simp only [h]; cases sizeT P fd.type with
        | none => rfl
        | some n => cases n with
          | zero => rfl
          | succ n => ((try dsimp only) <;> (repeat' (first | rfl | (simp only [at_cond, at_valO, at_aggO, at_val, at_fail, at_defO]; done) | split)) <;> (first | done | (simp_all only [at_cond, at_valO, at_aggO, at_val, at_fail, at_defO]; done) | simp_all [at_cond, at_valO, at_aggO, at_val, at_fail, at_defO]))
    | _ => rfl
theorem fieldC_free (ty f : Nat) (x : T → AV) : Free (fieldC P ty f x) := by
  intro t s s'
  unfold fieldC
  cases P.underlying ty with
  | none => rfl
  | some d => cases d with
    | struct fields => cases h : fields[f]? with
      | none => simp only [h]; rfl
      | some fd => simp only [h]; cases shapeT P fd.type with
        | none => rfl
        | some n => cases n <;> (simp only; ((try dsimp only) <;> (repeat' (first | rfl | (simp only [at_cond, at_valO, at_aggO, at_val, at_fail, at_defO]; done) | split)) <;> (first | done | (simp_all only [at_cond, at_valO, at_aggO, at_val, at_fail, at_defO]; done) | simp_all [at_cond, at_valO, at_aggO, at_val, at_fail, at_defO])))
    | _ => rfl
theorem indexAddrC_free (ty : Nat) (x i : T → AV) : Free (indexAddrC P ty x i) := by
  intro t s s'
  unfold indexAddrC
  cases P.underlying ty with
  | none => rfl
  | some d => cases d with
    | slice e => cases h : sizeT P e <;> (simp only [h]; ((try dsimp only) <;> (repeat' (first | rfl | (simp only [at_cond, at_valO, at_aggO, at_val, at_fail, at_defO]; done) | split)) <;> (first | done | (simp_all only [at_cond, at_valO, at_aggO, at_val, at_fail, at_defO]; done) | simp_all [at_cond, at_valO, at_aggO, at_val, at_fail, at_defO])))
    | array n e => cases h : sizeT P e <;> (simp only [h]; ((try dsimp only) <;> (repeat' (first | rfl | (simp only [at_cond, at_valO, at_aggO, at_val, at_fail, at_defO]; done) | split)) <;> (first | done | (simp_all only [at_cond, at_valO, at_aggO, at_val, at_fail, at_defO]; done) | simp_all [at_cond, at_valO, at_aggO, at_val, at_fail, at_defO])))
    | _ => rfl
theorem indexC_free (ty : Nat) (x i : T → AV) : Free (indexC P ty x i) := by
  intro t s s'
  unfold indexC
  cases P.underlying ty with
  | none => rfl
  | some d => cases d with
    | string => simp only; ((try dsimp only) <;> (repeat' (first | rfl | (simp only [at_cond, at_valO, at_aggO, at_val, at_fail, at_defO]; done) | split)) <;> (first | done | (simp_all only [at_cond, at_valO, at_aggO, at_val, at_fail, at_defO]; done) | simp_all [at_cond, at_valO, at_aggO, at_val, at_fail, at_defO]))
    | array n e => cases h : shapeT P e with
      | none => simp only [h]; rfl
      | some k => cases k with
        | none => cases h2 : sizeT P e <;> (simp only [h, h2]; ((try dsimp only) <;> (repeat' (first | rfl | (simp only [at_cond, at_valO, at_aggO, at_val, at_fail, at_defO]; done) | split)) <;> (first | done | (simp_all only [at_cond, at_valO, at_aggO, at_val, at_fail, at_defO]; done) | simp_all [at_cond, at_valO, at_aggO, at_val, at_fail, at_defO])))
        | some k => simp only [h]; ((try dsimp only) <;> (repeat' (first | rfl | (simp only [at_cond, at_valO, at_aggO, at_val, at_fail, at_defO]; done) | split)) <;> (first | done | (simp_all only [at_cond, at_valO, at_aggO, at_val, at_fail, at_defO]; done) | simp_all [at_cond, at_valO, at_aggO, at_val, at_fail, at_defO]))
    | _ => rfl
theorem makeInterfaceC_free (ty : Nat) (x : T → AV) : Free (makeInterfaceC P ty x) := by
  intro t s s'
  unfold makeInterfaceC
  cases P.underlying ty with
  | none => rfl
  | some d => cases d <;> rfl
theorem typeAssertC_free (x : T → AV) (ty : Nat) (ok : Bool) : Free (typeAssertC P x ty ok) := by
  intro t s s'
  unfold typeAssertC
  cases P.underlying ty with
  | none => rfl
  | some d => cases d <;> (first | rfl | (cases zeroT P ty <;> (simp only; ((try dsimp only) <;> (repeat' (first | rfl | (simp only [at_cond, at_valO, at_aggO, at_val, at_fail, at_defO]; done) | split)) <;> (first | done | (simp_all only [at_cond, at_valO, at_aggO, at_val, at_fail, at_defO]; done) | simp_all [at_cond, at_valO, at_aggO, at_val, at_fail, at_defO])))))
theorem nilEqC_free (d : Option TypeDesc) (neg : Bool) (x y : T → AV) {k : OpF} (hk : Free k) : Free (nilEqC d neg x y k) := by
  intro t s s'
  unfold nilEqC
  split
  · rfl
  · exact hk t s s'
theorem ptrEqC_free (ok neg : Bool) (x y : T → AV) {k : OpF} (hk : Free k) : Free (ptrEqC ok neg x y k) := by
  intro t s s'
  unfold ptrEqC
  split
  · ((try dsimp only) <;> (repeat' (first | rfl | (simp only [at_cond, at_valO, at_aggO, at_val, at_fail, at_defO]; done) | split)) <;> (first | done | (simp_all only [at_cond, at_valO, at_aggO, at_val, at_fail, at_defO]; done) | simp_all [at_cond, at_valO, at_aggO, at_val, at_fail, at_defO]))
  · exact hk t s s'
theorem structEqC_free (ty : Nat) (neg : Bool) (x y : T → AV) {k : OpF} (hk : Free k) : Free (structEqC P ty neg x y k) := by
  suffices key : ∀ F, structEqC P ty neg x y k = F → Free F from key _ rfl
  intro F hF
  unfold structEqC at hF
  split at hF
  · rename_i fields hf
    rcases Bool.eq_false_or_eq_true (!P.stoodInHeld ty && !P.eqGuardType P.depth ty) with hb | hb
    · rw [cond_of_true hb] at hF
      subst hF
      intro t s s'
      simp only
      split
      · split
        · rfl
        · exact hk t s s'
      · exact hk t s s'
    · rw [cond_of_false hb] at hF; subst hF; exact hk
  · subst hF; exact hk
theorem elseC_free (op : BinOp) (ty : Nat) (x y : T → AV) : Free (elseC P G o op ty x y) := by
  unfold elseC
  split
  · exact structEqC_free _ _ _ _ (ptrEqC_free _ _ _ _ (nilEqC_free _ _ _ _ plainC_free))
  · exact structEqC_free _ _ _ _ (ptrEqC_free _ _ _ _ (nilEqC_free _ _ _ _ plainC_free))
  · exact plainC_free
theorem binInt_free (f : IntKind → Int → Int → AV) (x y : T → AV) {k : OpF} (hk : Free k) : Free (binInt k f x y) := by
  intro t s s'
  unfold binInt
  split
  · ((try dsimp only) <;> (repeat' (first | rfl | (simp only [at_cond, at_valO, at_aggO, at_val, at_fail, at_defO]; done) | split)) <;> (first | done | (simp_all only [at_cond, at_valO, at_aggO, at_val, at_fail, at_defO]; done) | simp_all [at_cond, at_valO, at_aggO, at_val, at_fail, at_defO]))
  · exact hk t s s'
theorem binC_free (op : BinOp) (ty : Nat) (x y : T → AV) : Free (binC P G o op ty x y) := by
  intro t s s'
  unfold binC
  cases h : intOp op with
  | none => simp only; exact plainC_free t s s'
  | some f => cases h2 : strOp op with
    | none => exact binInt_free f x y (elseC_free op ty x y) t s s'
    | some g =>
      simp only
      split
      · ((try dsimp only) <;> (repeat' (first | rfl | (simp only [at_cond, at_valO, at_aggO, at_val, at_fail, at_defO]; done) | split)) <;> (first | done | (simp_all only [at_cond, at_valO, at_aggO, at_val, at_fail, at_defO]; done) | simp_all [at_cond, at_valO, at_aggO, at_val, at_fail, at_defO]))
      · exact binInt_free f x y (elseC_free op ty x y) t s s'
theorem buildC_free (ty : Nat) (ps : List (Nat × Operand)) : Free (buildC P G ty ps) := by
  intro t s s'
  unfold buildC
  cases zeroT P ty with
  | none => rfl
  | some z => cases z with
    | agg z => cases P.underlying ty with
      | none => rfl
      | some d => cases d with
        | struct fields => cases h : placesT P fields <;> (simp only [h]; ((try dsimp only) <;> (repeat' (first | rfl | (simp only [at_cond, at_valO, at_aggO, at_val, at_fail, at_defO]; done) | split)) <;> (first | done | (simp_all only [at_cond, at_valO, at_aggO, at_val, at_fail, at_defO]; done) | simp_all [at_cond, at_valO, at_aggO, at_val, at_fail, at_defO])))
        | array n e => cases h : sizeT P e <;> (simp only [h]; ((try dsimp only) <;> (repeat' (first | rfl | (simp only [at_cond, at_valO, at_aggO, at_val, at_fail, at_defO]; done) | split)) <;> (first | done | (simp_all only [at_cond, at_valO, at_aggO, at_val, at_fail, at_defO]; done) | simp_all [at_cond, at_valO, at_aggO, at_val, at_fail, at_defO])))
        | _ => rfl
    | _ => rfl
theorem sliceC_free (ty : Nat) (x : T → AV) (lo hi mx : Option (T → AV)) (h : ∀ n e, P.underlying ty ≠ some (.array n e)) : Free (sliceC P ty x lo hi mx) := by
  intro t s s'
  unfold sliceC
  cases hu : P.underlying ty with
  | none => rfl
  | some d => cases d with
    | array n e => exact absurd hu (h n e)
    | slice e => cases h : sizeT P e <;> (simp only [h]; ((try dsimp only) <;> (repeat' (first | rfl | (simp only [at_cond, at_valO, at_aggO, at_val, at_fail, at_defO]; done) | split)) <;> (first | done | (simp_all only [at_cond, at_valO, at_aggO, at_val, at_fail, at_defO]; done) | simp_all [at_cond, at_valO, at_aggO, at_val, at_fail, at_defO])))
    | string => simp only; ((try dsimp only) <;> (repeat' (first | rfl | (simp only [at_cond, at_valO, at_aggO, at_val, at_fail, at_defO]; done) | split)) <;> (first | done | (simp_all only [at_cond, at_valO, at_aggO, at_val, at_fail, at_defO]; done) | simp_all [at_cond, at_valO, at_aggO, at_val, at_fail, at_defO]))
    | _ => rfl
theorem convertC_free (src dst : Nat) (x : T → AV) (h : ∀ e, P.underlying src ≠ some (.slice e)) : Free (convertC P G o src dst x) := by
  suffices key : ∀ F, convertC P G o src dst x = F → Free F from key _ rfl
  intro F hF
  unfold convertC at hF
  split at hF
  · split at hF
    · subst hF; intro t s s'; ((try dsimp only) <;> (repeat' (first | rfl | (simp only [at_cond, at_valO, at_aggO, at_val, at_fail, at_defO]; done) | split)) <;> (first | done | (simp_all only [at_cond, at_valO, at_aggO, at_val, at_fail, at_defO]; done) | simp_all [at_cond, at_valO, at_aggO, at_val, at_fail, at_defO]))
    · subst hF; exact failC_free
  · rename_i hs _; exact absurd hs (h _)
  · subst hF; intro t s s'; ((try dsimp only) <;> (repeat' (first | rfl | (simp only [at_cond, at_valO, at_aggO, at_val, at_fail, at_defO]; done) | split)) <;> (first | done | (simp_all only [at_cond, at_valO, at_aggO, at_val, at_fail, at_defO]; done) | simp_all [at_cond, at_valO, at_aggO, at_val, at_fail, at_defO]))
  · subst hF; exact plainC_free
theorem convC_eq {src dst : Nat} {x : T → AV} (h1 : ∀ u, P.underlying src ≠ some (.pointer u)) (h2 : P.underlying src ≠ some .unsafePointer) : convC P G o src dst x = convertC P G o src dst x := by
  unfold convC
  split
  · rename_i h _; exact absurd h (h1 _)
  · rename_i h _; exact absurd h h2
  · rfl
theorem lenC_free (ty : Nat) (x : T → AV) (h : ∀ k e, P.underlying ty ≠ some (.map k e)) : Free (lenC P ty x) := by
  intro t s s'
  unfold lenC
  cases hu : P.underlying ty with
  | none => rfl
  | some d => cases d with
    | map k e => exact absurd hu (h k e)
    | slice e => simp only; ((try dsimp only) <;> (repeat' (first | rfl | (simp only [at_cond, at_valO, at_aggO, at_val, at_fail, at_defO]; done) | split)) <;> (first | done | (simp_all only [at_cond, at_valO, at_aggO, at_val, at_fail, at_defO]; done) | simp_all [at_cond, at_valO, at_aggO, at_val, at_fail, at_defO]))
    | string => simp only; ((try dsimp only) <;> (repeat' (first | rfl | (simp only [at_cond, at_valO, at_aggO, at_val, at_fail, at_defO]; done) | split)) <;> (first | done | (simp_all only [at_cond, at_valO, at_aggO, at_val, at_fail, at_defO]; done) | simp_all [at_cond, at_valO, at_aggO, at_val, at_fail, at_defO]))
    | _ => rfl
theorem capC_free (ty : Nat) (x : T → AV) : Free (capC P ty x) := by
  intro t s s'
  unfold capC
  cases hu : P.underlying ty with
  | none => rfl
  | some d => cases d with
    | slice e => simp only; ((try dsimp only) <;> (repeat' (first | rfl | (simp only [at_cond, at_valO, at_aggO, at_val, at_fail, at_defO]; done) | split)) <;> (first | done | (simp_all only [at_cond, at_valO, at_aggO, at_val, at_fail, at_defO]; done) | simp_all [at_cond, at_valO, at_aggO, at_val, at_fail, at_defO]))
    | _ => rfl
theorem opC_free (h : kdOf P o = .pure) : Free (opC P G callF o) := by
  suffices key : ∀ F, opC P G callF o = F → Free F from key _ rfl
  intro F hF
  unfold opC at hF
  split at hF <;> subst hF <;> rename_i ho <;> simp only [kdOf, ho] at h <;> try (cases h; done)
  all_goals first
    | exact fun _ _ _ => rfl
    | exact pickC_free _ _ _
    | exact buildC_free _ _
    | exact nilCheckC_free _
    | exact fieldAddrC_free _ _ _
    | exact fieldC_free _ _ _
    | exact indexAddrC_free _ _ _
    | exact indexC_free _ _ _
    | exact extractC_free _ _
    | exact makeInterfaceC_free _ _
    | exact typeAssertC_free _ _ _
    | exact binC_free _ _ _ _
    | exact plainC_free
    | skip
  · refine sliceC_free _ _ _ _ _ fun n e he => ?_
    rw [he] at h; cases h
  · rw [convC_eq (fun u he => by rw [he] at h; cases h) (fun he => by rw [he] at h; cases h)]
    refine convertC_free _ _ _ fun e he => ?_
    rw [he] at h; cases h
  · rename_i b args ts
    suffices key : ∀ F, builtinC P G o b args.toList ts.toList = F → Free F from key _ rfl
    intro F hF
    unfold builtinC at hF
    split at hF <;> subst hF <;> (try (simp only at h; cases h; done)) <;> first | exact plainC_free | exact failC_free | exact capC_free _ _ | skip
    refine lenC_free _ _ fun k e he => ?_
    rename_i hts
    simp only [hts, he] at h
    cases h
def Ext (s s' : St) : Prop := ∀ r x, s.get r = some x → s'.get r = some x
theorem Ext.push {s : St} (h : Wf s) (ob : AObj) : Ext s (s.push ob) := fun r x e => by rw [get_push_old (h.lt e)]; exact e
theorem rowAt_ext {s s' : St} (h : Ext s s') {r : Nat} {o : Row} (e : rowAt s r = some o) : rowAt s' r = some o := by
  obtain ⟨e1, e2⟩ := rowAt_eq e
  unfold rowAt
  rw [h r _ e1]
  have : valid s' o = true := by
    unfold valid at e2 ⊢
    cases hs : o.solo with
    | true => rfl
    | false =>
      rw [hs] at e2
      simp only [cond_false] at e2 ⊢
      split at e2
      · rename_i q hq; rw [h _ _ hq]; exact e2
      · cases e2
  simp [this]
theorem cellsAt_ext {s s' : St} (h : Ext s s') {n : Nat} {a : AV} {l : List AV} (e : cellsAt n a s = some l) : cellsAt n a s' = some l := by
  unfold cellsAt at e ⊢
  cases a with
  | ptr r off =>
    simp only at e ⊢
    split at e
    · rename_i o ho; rw [rowAt_ext h ho]; exact e
    · cases e
  | _ => exact e
theorem cell1_ext {s s' : St} (h : Ext s s') {a x : AV} (e : cell1 a s = some x) : cell1 a s' = some x := by
  unfold cell1 at e ⊢
  cases a with
  | ptr r off =>
    simp only at e ⊢
    split at e
    · rename_i o ho; rw [rowAt_ext h ho]; exact e
    · cases e
  | _ => exact e
theorem elemsN_ext {s s' : St} (h : Ext s s') {es m : Nat} {a : AV} {l : List AV} (e : elemsN es m a s = some l) : elemsN es m a s' = some l := by
  unfold elemsN at e ⊢
  cases a with
  | sl r off len es' t =>
    simp only at e ⊢
    rcases Bool.eq_false_or_eq_true (m.beq 0) with hm | hm
    · rw [cond_of_true hm] at e ⊢; exact e
    · rw [cond_of_false hm] at e ⊢
      rcases Bool.eq_false_or_eq_true (es.beq es' && Nat.ble m len) with hq | hq
      · rw [cond_of_true hq] at e ⊢; exact cellsAt_ext h e
      · rw [cond_of_false hq] at e; cases e
  | _ => exact e
theorem toUnsafeC_read {u : TypeId} {x : T → AV} {t : T} {s s1 : St} {v : AV} (e : toUnsafeC P u x t s = .val v s1) : s1 = s ∧ ∀ s', Ext s s' → toUnsafeC P u x t s' = .val v s' := by
  unfold toUnsafeC at e ⊢
  cases hz : sizeT P u with
  | none => rw [hz] at e; cases e
  | some n =>
    cases n with
    | zero => rw [hz] at e; cases e
    | succ n =>
      simp only [hz] at e ⊢
      cases hx : x t with
      | nilp => simp only [hx] at e; cases e; exact ⟨rfl, fun s' _ => rfl⟩
      | ptr r off =>
        simp only [hx] at e ⊢
        cases hr : rowAt s r with
        | none => rw [hr] at e; cases e
        | some q =>
          rw [hr] at e
          simp only at e
          rcases Bool.eq_false_or_eq_true (Nat.blt off q.vals.length) with hb | hb
          · rw [cond_of_true hb] at e
            cases e
            exact ⟨rfl, fun s' h => by rw [rowAt_ext h hr]; simp only [hb, cond_true]⟩
          · rw [cond_of_false hb] at e; cases e
      | _ => simp only [hx] at e; cases e
theorem fromUnsafeC_read {u : TypeId} {x : T → AV} {t : T} {s s1 : St} {v : AV} (e : fromUnsafeC P u x t s = .val v s1) : s1 = s ∧ ∀ s', Ext s s' → fromUnsafeC P u x t s' = .val v s' := by
  unfold fromUnsafeC at e ⊢
  cases hz : sizeT P u with
  | none => rw [hz] at e; cases e
  | some n =>
    cases n with
    | zero => rw [hz] at e; cases e
    | succ n =>
      simp only [hz] at e ⊢
      cases hx : x t with
      | nilp => simp only [hx] at e; cases e; exact ⟨rfl, fun s' _ => rfl⟩
      | ptr r off =>
        cases off with
        | succ off => simp only [hx] at e; cases e
        | zero =>
          simp only [hx] at e ⊢
          cases hr : rowAt s r with
          | none => rw [hr] at e; cases e
          | some q =>
            rw [hr] at e
            simp only at e
            rcases Bool.eq_false_or_eq_true (q.root.beq r && (q.pos.beq 0 && (q.ty.beq u && Nat.ble (n + 1) q.vals.length))) with hb | hb
            · rw [cond_of_true hb] at e
              cases e
              exact ⟨rfl, fun s' h => by rw [rowAt_ext h hr]; simp only [hb, cond_true]⟩
            · rw [cond_of_false hb] at e; cases e
      | _ => simp only [hx] at e; cases e
theorem convC_read {src dst : TypeId} {x : T → AV} {t : T} {s s1 : St} {v : AV} (hs : (∃ u, P.underlying src = some (.pointer u)) ∨ P.underlying src = some .unsafePointer)
    (e : convC P G o src dst x t s = .val v s1) : s1 = s ∧ ∀ s', Ext s s' → convC P G o src dst x t s' = .val v s' := by
  suffices key : ∀ F, convC P G o src dst x = F → F t s = .val v s1 → s1 = s ∧ ∀ s', Ext s s' → F t s' = .val v s' from key _ rfl e
  intro F hF e
  unfold convC at hF
  split at hF <;> subst hF
  · exact toUnsafeC_read e
  · exact fromUnsafeC_read e
  · obtain ⟨h1, h2⟩ := (convertC_free (P := P) (G := G) (o := o) src dst x (fun e he => by
      rcases hs with ⟨u, hs⟩ | hs <;> rw [hs] at he <;> cases he)).val e
    exact ⟨h1, fun s' _ => h2 s'⟩
theorem opC_read (hk : kdOf P o = .read) {t : T} {s s1 : St} {v : AV} (e : opC P G callF o t s = .val v s1) :
    s1 = s ∧ ∀ s', Ext s s' → opC P G callF o t s' = .val v s' := by
  cases ho : o.op <;> simp only [kdOf, ho] at hk <;> try (cases hk; done)
  case load ty a =>
    simp only [opC, ho] at e ⊢
    unfold loadC at e ⊢
    cases hs : shapeT P ty with
    | none => rw [hs] at e; cases e
    | some n => cases n with
      | none =>
        rw [hs] at e
        simp only [valO] at e ⊢
        split at e
        · rename_i y hy
          cases e
          exact ⟨rfl, fun s' h => by rw [cell1_ext h hy]⟩
        · cases e
      | some n =>
        rw [hs] at e
        simp only [aggO] at e ⊢
        split at e
        · rename_i y hy
          cases e
          exact ⟨rfl, fun s' h => by rw [cellsAt_ext h hy]⟩
        · cases e
  case convert src dst x =>
    cases hu : P.underlying src with
    | none => rw [hu] at hk; cases hk
    | some d => cases d with
      | slice el =>
        simp only [opC, ho] at e ⊢
        rw [convC_eq (fun u he => by rw [hu] at he; cases he) (fun he => by rw [hu] at he; cases he)] at e ⊢
        unfold convertC at e ⊢
        simp only [hu] at e ⊢
        cases hd : P.underlying dst with
        | none =>
          simp only [hd] at e ⊢
          obtain ⟨h1, h2⟩ := (plainC_free (P := P) (G := G) (o := o)).val e
          exact ⟨h1, fun s' _ => h2 s'⟩
        | some d2 => cases d2 with
          | string =>
            simp only [hd] at e ⊢
            by_cases h8 : P.underlying el = some (.int .u8)
            · simp only [h8] at e ⊢
              cases hn : lenA (evC G x t) with
              | none => rw [hn] at e; cases e
              | some n =>
                simp only [hn] at e ⊢
                generalize evC G x t = a at e ⊢
                cases a with
                | str l => cases e
                | _ =>
                  simp only at e ⊢
                  split at e
                  · rename_i cs hcs
                    split at e
                    · rename_i l hl
                      cases e
                      exact ⟨rfl, fun s' h => by rw [elemsN_ext h hcs]; simp only [hl]⟩
                    · cases e
                  · cases e
            · suffices key : ∀ F, (match P.underlying el with
                  | some (.int .u8) => fun (t : T) (s : St) => match lenA (evC G x t) with
                    | some n => match evC G x t with
                      | .str _ => Nx.fail
                      | a => match elemsN 1 n a s with
                        | some cs => match bytesOf cs with | some l => .val (.str l) s | none => .fail
                        | none => .fail
                    | none => .fail
                  | _ => failC) = F → F t s = .val v s1 → s1 = s ∧ ∀ s', Ext s s' → F t s' = .val v s' from key _ rfl e
              intro F hF e
              split at hF
              · rename_i h9; exact absurd h9 h8
              · subst hF; cases e
          | _ =>
            simp only [hd] at e ⊢
            obtain ⟨h1, h2⟩ := (plainC_free (P := P) (G := G) (o := o)).val e
            exact ⟨h1, fun s' _ => h2 s'⟩
      | pointer u =>
        simp only [opC, ho] at e ⊢
        exact convC_read (.inl ⟨u, hu⟩) e
      | unsafePointer =>
        simp only [opC, ho] at e ⊢
        exact convC_read (.inr hu) e
      | _ => rw [hu] at hk; cases hk
  case slice ty x lo hi mx => split at hk <;> cases hk
  case call c =>
    obtain ⟨cal, args, ts⟩ := c
    cases cal with
    | builtin b =>
      cases b <;> try (cases hk; done)
      simp only at hk
      split at hk
      · split at hk <;> cases hk
      · cases hk
    | _ => cases hk
end
end Go.Am
end
section
namespace Go.Am
section
variable {P : Program} {G : Glob} {callF : CF} {o : Oper} {t t' : T} {s : St}
theorem evL_dep : ∀ {l : List Operand}, (∀ x ∈ l, evC G x t = evC G x t') → evL G l t = evL G l t'
  | [], _ => rfl
  | x :: l, h => by simp only [evL]; rw [h x (by simp), evL_dep fun y hy => h y (by simp [hy])]
theorem noSel_ne (hs : noSel o = true) : ∀ cs b, o.op ≠ .select cs b := by
  intro cs b e; simp [noSel, e] at hs
theorem plainRun_dep (hs : noSel o = true) (h : ∀ x ∈ o.op.operands, evC G x t = evC G x t') : plainRun P G o t = plainRun P G o t' := by
  unfold plainRun
  rw [evL_dep (t := t) (t' := t') (fun x hx => h x (by simpa using hx))]
  have : execOp (fun x => match toV (evC G x t) with | some v => v | none => .tuple #[]) o = execOp (fun x => match toV (evC G x t') with | some v => v | none => .tuple #[]) o :=
    execOp_congr o (noSel_ne hs) fun x hx => by rw [h x hx]
  cases toVs (evL G o.op.operands.toList t') with
  | none => rfl
  | some _ => exact congrArg (fun z => match still P z with | some (.value v) => ofV v | _ => none) this
theorem plainC_dep (hs : noSel o = true) (h : ∀ x ∈ o.op.operands, evC G x t = evC G x t') : plainC P G o t s = plainC P G o t' s := by
  unfold plainC; rw [plainRun_dep hs h]
variable {a b c d : T → AV}
theorem pickC_dep (h1 : a t = a t') (h2 : b t = b t') (h3 : c t = c t') : pickC a b c t s = pickC a b c t' s := by unfold pickC; rw [h1, h2, h3]
theorem nilCheckC_dep (h : a t = a t') : nilCheckC a t s = nilCheckC a t' s := by unfold nilCheckC; rw [h]
theorem extractC_dep {i : Nat} (h : a t = a t') : extractC i a t s = extractC i a t' s := by unfold extractC; rw [h]
theorem boxC_dep {ty : Nat} (h : a t = a t') : boxC ty a t s = boxC ty a t' s := by unfold boxC; rw [h]
theorem panicC_dep (h : a t = a t') : panicC a t s = panicC a t' s := by unfold panicC; rw [h]
theorem allocC_dep {ty : Nat} {z : Option AV} : allocC ty z t s = allocC ty z t' s := by cases z <;> rfl
theorem loadC_dep {sh : Option (Option Nat)} (h : a t = a t') : loadC sh a t s = loadC sh a t' s := by
  cases sh with
  | none => rfl
  | some n => cases n <;> (simp only [loadC]; rw [h])
theorem storeC_dep {n : Option Nat} (h : a t = a t') (h2 : b t = b t') : storeC n a b t s = storeC n a b t' s := by
  cases n <;> (simp only [storeC, h, h2])
theorem zipParts_dep : ∀ {pl : List (Option (Nat × Nat))} {xs : List (T → AV)}, (∀ x ∈ xs, x t = x t') → zipParts pl xs t = zipParts pl xs t'
  | [], [], _ => rfl
  | [], _ :: _, _ => rfl
  | none :: _, [], _ => rfl
  | none :: _, _ :: _, _ => rfl
  | some _ :: _, [], _ => rfl
  | some p :: pl, x :: xs, h => by
    simp only [zipParts]
    rw [zipParts_dep fun y hy => h y (by simp [hy]), h x (by simp)]
theorem parts_dep {ps : List (Nat × Operand)} (h : ∀ x ∈ ps.map (·.2), evC G x t = evC G x t') : ∀ x ∈ ps.map (fun p => evC G p.2), x t = x t' := by
  intro x hx
  simp only [List.mem_map] at hx
  obtain ⟨p, hp, rfl⟩ := hx
  exact h p.2 (List.mem_map.2 ⟨p, hp, rfl⟩)
theorem buildC_dep {ty : Nat} {ps : List (Nat × Operand)} (h : ∀ x ∈ ps.map (·.2), evC G x t = evC G x t') : buildC P G ty ps t s = buildC P G ty ps t' s := by
  have hz := fun pl => zipParts_dep (pl := pl) (parts_dep h)
  suffices key : ∀ F, buildC P G ty ps = F → F t s = F t' s from key _ rfl
  intro F hF
  unfold buildC at hF
  ((repeat' (split at hF)) <;> (subst hF) <;> (first | rfl | (simp only [hz]; done)))
theorem buildSliceC_dep {ty n : Nat} {ps : List (Nat × Operand)} (h : ∀ x ∈ ps.map (·.2), evC G x t = evC G x t') : buildSliceC P G ty n ps t s = buildSliceC P G ty n ps t' s := by
  have hz := fun pl => zipParts_dep (pl := pl) (parts_dep h)
  suffices key : ∀ F, buildSliceC P G ty n ps = F → F t s = F t' s from key _ rfl
  intro F hF
  unfold buildSliceC at hF
  split at hF
  · split at hF
    · rename_i e _ m z _ _
      rcases Bool.eq_false_or_eq_true (m.beq z.cells.length && Nat.ble (n * m) 16777216 && Nat.blt 0 m) with hb | hb
      · rw [cond_of_true hb] at hF; subst hF; simp only [hz]
      · rw [cond_of_false hb] at hF; subst hF; rfl
    · subst hF; rfl
  · subst hF; rfl
theorem fieldAddrC_dep {ty f : Nat} (h : a t = a t') : fieldAddrC P ty f a t s = fieldAddrC P ty f a t' s := by
  suffices key : ∀ F, fieldAddrC P ty f a = F → F t s = F t' s from key _ rfl
  intro F hF
  unfold fieldAddrC at hF
  ((repeat' (split at hF)) <;> (subst hF) <;> (first | rfl | (simp only [h]; done)))
theorem fieldC_dep {ty f : Nat} (h : a t = a t') : fieldC P ty f a t s = fieldC P ty f a t' s := by
  suffices key : ∀ F, fieldC P ty f a = F → F t s = F t' s from key _ rfl
  intro F hF
  unfold fieldC at hF
  ((repeat' (split at hF)) <;> (subst hF) <;> (first | rfl | (simp only [h]; done)))
theorem indexAddrC_dep {ty : Nat} (h : a t = a t') (h2 : b t = b t') : indexAddrC P ty a b t s = indexAddrC P ty a b t' s := by
  suffices key : ∀ F, indexAddrC P ty a b = F → F t s = F t' s from key _ rfl
  intro F hF
  unfold indexAddrC at hF
  ((repeat' (split at hF)) <;> (subst hF) <;> (first | rfl | (simp only [h, h2]; done)))
theorem indexC_dep {ty : Nat} (h : a t = a t') (h2 : b t = b t') : indexC P ty a b t s = indexC P ty a b t' s := by
  suffices key : ∀ F, indexC P ty a b = F → F t s = F t' s from key _ rfl
  intro F hF
  unfold indexC at hF
  ((repeat' (split at hF)) <;> (subst hF) <;> (first | rfl | (simp only [h, h2]; done)))
theorem optE_dep {x : Option Operand} (h : ∀ y ∈ x, evC G y t = evC G y t') : optE (x.map (evC G)) t = optE (x.map (evC G)) t' := by
  cases x with
  | none => rfl
  | some y => simp only [Option.map, optE]; rw [h y (by simp)]
theorem sliceC_dep {ty : Nat} {x y z : Option Operand} (h : a t = a t') (hx : ∀ w ∈ x, evC G w t = evC G w t') (hy : ∀ w ∈ y, evC G w t = evC G w t') (hz : ∀ w ∈ z, evC G w t = evC G w t') :
    sliceC P ty a (x.map (evC G)) (y.map (evC G)) (z.map (evC G)) t s = sliceC P ty a (x.map (evC G)) (y.map (evC G)) (z.map (evC G)) t' s := by
  have h1 := optE_dep hx
  have h2 := optE_dep hy
  have h3 := optE_dep hz
  suffices key : ∀ F, sliceC P ty a (x.map (evC G)) (y.map (evC G)) (z.map (evC G)) = F → F t s = F t' s from key _ rfl
  intro F hF
  unfold sliceC at hF
  ((repeat' (split at hF)) <;> (subst hF) <;> (first | rfl | (simp only [h, h1, h2, h3]; done)))
theorem makeSliceC_dep {ty : Nat} (h : a t = a t') (h2 : b t = b t') : makeSliceC P ty a b t s = makeSliceC P ty a b t' s := by
  suffices key : ∀ F, makeSliceC P ty a b = F → F t s = F t' s from key _ rfl
  intro F hF
  unfold makeSliceC at hF
  split at hF
  · split at hF
    · rename_i z n b _ _ _
      rcases Bool.eq_false_or_eq_true (n.beq z.cells.length && Nat.ble b 65536) with hb | hb
      · rw [cond_of_true hb] at hF; subst hF; simp only [h, h2]
      · rw [cond_of_false hb] at hF; subst hF; rfl
    · subst hF; rfl
  · subst hF; rfl
theorem lookupC_dep {ty : Nat} {ok : Bool} (h : a t = a t') (h2 : b t = b t') : lookupC P ty a b ok t s = lookupC P ty a b ok t' s := by
  suffices key : ∀ F, lookupC P ty a b ok = F → F t s = F t' s from key _ rfl
  intro F hF
  unfold lookupC at hF
  ((repeat' (split at hF)) <;> (subst hF) <;> (first | rfl | (simp only [h, h2]; done)))
theorem mapUpdateC_dep {ty : Nat} (h : a t = a t') (h2 : b t = b t') (h3 : c t = c t') : mapUpdateC P ty a b c t s = mapUpdateC P ty a b c t' s := by
  suffices key : ∀ F, mapUpdateC P ty a b c = F → F t s = F t' s from key _ rfl
  intro F hF
  unfold mapUpdateC at hF
  ((repeat' (split at hF)) <;> (subst hF) <;> (first | rfl | (simp only [h, h2, h3]; done)))
theorem typeAssertC_dep {ty : Nat} {ok : Bool} (h : a t = a t') : typeAssertC P a ty ok t s = typeAssertC P a ty ok t' s := by
  suffices key : ∀ F, typeAssertC P a ty ok = F → F t s = F t' s from key _ rfl
  intro F hF
  unfold typeAssertC at hF
  ((repeat' (split at hF)) <;> (subst hF) <;> (first | rfl | (simp only [h]; done)))
theorem makeInterfaceC_dep {ty : Nat} (h : a t = a t') : makeInterfaceC P ty a t s = makeInterfaceC P ty a t' s := by
  suffices key : ∀ F, makeInterfaceC P ty a = F → F t s = F t' s from key _ rfl
  intro F hF
  unfold makeInterfaceC at hF
  ((repeat' (split at hF)) <;> (subst hF) <;> (first | rfl | (simp only [h]; done)))
theorem appendC_dep {ty tx : Nat} (h : a t = a t') (h2 : b t = b t') : appendC P ty tx a b t s = appendC P ty tx a b t' s := by
  suffices key : ∀ F, appendC P ty tx a b = F → F t s = F t' s from key _ rfl
  intro F hF
  unfold appendC at hF
  rcases Bool.eq_false_or_eq_true (seqT P tx) with hb | hb
  · rw [cond_of_true hb] at hF
    split at hF
    · split at hF
      · rename_i n b z _ _ _
        rcases Bool.eq_false_or_eq_true (Nat.ble b 65536 && n.beq z.cells.length) with hq | hq
        · rw [cond_of_true hq] at hF; subst hF; simp only [h, h2]
        · rw [cond_of_false hq] at hF; subst hF; rfl
      · subst hF; rfl
    · subst hF; rfl
  · rw [cond_of_false hb] at hF; subst hF; rfl
theorem lenC_dep {ty : Nat} (h : a t = a t') : lenC P ty a t s = lenC P ty a t' s := by
  suffices key : ∀ F, lenC P ty a = F → F t s = F t' s from key _ rfl
  intro F hF
  unfold lenC at hF
  ((repeat' (split at hF)) <;> (subst hF) <;> (first | rfl | (simp only [h]; done)))
theorem capC_dep {ty : Nat} (h : a t = a t') : capC P ty a t s = capC P ty a t' s := by
  suffices key : ∀ F, capC P ty a = F → F t s = F t' s from key _ rfl
  intro F hF
  unfold capC at hF
  ((repeat' (split at hF)) <;> (subst hF) <;> (first | rfl | (simp only [h]; done)))
theorem copyC_dep {ty : Nat} (h : a t = a t') (h2 : b t = b t') : copyC P ty a b t s = copyC P ty a b t' s := by
  suffices key : ∀ F, copyC P ty a b = F → F t s = F t' s from key _ rfl
  intro F hF
  unfold copyC at hF
  ((repeat' (split at hF)) <;> (subst hF) <;> (first | rfl | (simp only [h, h2]; done)))
theorem structEqC_dep {ty : Nat} {neg : Bool} {k : OpF} (h : a t = a t') (h2 : b t = b t') (hk : k t s = k t' s) : structEqC P ty neg a b k t s = structEqC P ty neg a b k t' s := by
  suffices key : ∀ F, structEqC P ty neg a b k = F → F t s = F t' s from key _ rfl
  intro F hF
  unfold structEqC at hF
  split at hF
  · rename_i fields hf
    rcases Bool.eq_false_or_eq_true (!P.stoodInHeld ty && !P.eqGuardType P.depth ty) with hb | hb
    · rw [cond_of_true hb] at hF; subst hF; simp only [h, h2, hk]
    · rw [cond_of_false hb] at hF; subst hF; exact hk
  · subst hF; exact hk
theorem elseC_dep {op : BinOp} {ty : Nat} (hp : plainC P G o t s = plainC P G o t' s) (h : a t = a t') (h2 : b t = b t') : elseC P G o op ty a b t s = elseC P G o op ty a b t' s := by
  suffices key : ∀ F, elseC P G o op ty a b = F → F t s = F t' s from key _ rfl
  intro F hF
  unfold elseC at hF
  split at hF <;> subst hF <;> first | exact hp | (refine structEqC_dep h h2 ?_; simp only [ptrEqC, nilEqC, h, h2, hp])
theorem binInt_dep {f : IntKind → Int → Int → AV} {k : OpF} (hp : k t s = k t' s) (h : a t = a t') (h2 : b t = b t') : binInt k f a b t s = binInt k f a b t' s := by
  unfold binInt; simp only [h, h2, hp]
theorem binC_dep {op : BinOp} {ty : Nat} (hp : plainC P G o t s = plainC P G o t' s) (h : a t = a t') (h2 : b t = b t') : binC P G o op ty a b t s = binC P G o op ty a b t' s := by
  have he := elseC_dep (op := op) (ty := ty) hp h h2
  suffices key : ∀ F, binC P G o op ty a b = F → F t s = F t' s from key _ rfl
  intro F hF
  unfold binC at hF
  split at hF
  · rename_i f _ _ _
    subst hF; simp only [h, h2, binInt_dep (f := f) he h h2]
  · subst hF; exact binInt_dep he h h2
  · subst hF; exact hp
theorem convertC_dep {src dst : Nat} (hp : plainC P G o t s = plainC P G o t' s) (h : a t = a t') : convertC P G o src dst a t s = convertC P G o src dst a t' s := by
  suffices key : ∀ F, convertC P G o src dst a = F → F t s = F t' s from key _ rfl
  intro F hF
  unfold convertC at hF
  (repeat' (split at hF)) <;> (subst hF) <;> (first | rfl | exact hp | (simp only [h]; done))
theorem convC_dep {src dst : Nat} (hp : plainC P G o t s = plainC P G o t' s) (h : a t = a t') : convC P G o src dst a t s = convC P G o src dst a t' s := by
  suffices key : ∀ F, convC P G o src dst a = F → F t s = F t' s from key _ rfl
  intro F hF
  unfold convC at hF
  split at hF <;> subst hF
  · suffices key : ∀ F, toUnsafeC P _ a = F → F t s = F t' s from key _ rfl
    intro F hF
    unfold toUnsafeC at hF
    ((repeat' (split at hF)) <;> (subst hF) <;> (first | rfl | (simp only [h]; done)))
  · suffices key : ∀ F, fromUnsafeC P _ a = F → F t s = F t' s from key _ rfl
    intro F hF
    unfold fromUnsafeC at hF
    ((repeat' (split at hF)) <;> (subst hF) <;> (first | rfl | (simp only [h]; done)))
  · exact convertC_dep hp h
theorem unsafeStringC_dep {pt : TypeId} {x : T → AV} (h : a t = a t') (h2 : x t = x t') : unsafeStringC P pt a x t s = unsafeStringC P pt a x t' s := by
  suffices key : ∀ F, unsafeStringC P pt a x = F → F t s = F t' s from key _ rfl
  intro F hF
  unfold unsafeStringC at hF
  split at hF
  · split at hF
    · subst hF; simp only [h, h2]
    · subst hF; rfl
  · subst hF; rfl
theorem sliceDataC_dep (h : a t = a t') : sliceDataC a t s = sliceDataC a t' s := by unfold sliceDataC; rw [h]
theorem opC_dep (hs : noSel o = true) (h : ∀ x ∈ o.op.operands, evC G x t = evC G x t') : opC P G callF o t s = opC P G callF o t' s := by
  have hp : plainC P G o t s = plainC P G o t' s := plainC_dep hs h
  suffices key : ∀ F, opC P G callF o = F → F t s = F t' s from key _ rfl
  intro F hF
  unfold opC at hF
  split at hF <;> subst hF
  case h_31 => rfl
  all_goals rename_i ho
  all_goals (rewrite [ho] at h; simp only [Op.operands] at h)
  case h_1 _ x => have h1 := h x (by simp); simp only [h1]
  case h_2 _ x => have h1 := h x (by simp); simp only [h1]
  case h_3 => exact pickC_dep (h _ (by simp)) (h _ (by simp)) (h _ (by simp))
  case h_4 => exact allocC_dep
  case h_5 => exact boxC_dep (h _ (by simp))
  case h_6 => exact buildC_dep fun x hx => h x (by simpa using hx)
  case h_7 => exact buildSliceC_dep fun x hx => h x (by simpa using hx)
  case h_8 => exact loadC_dep (h _ (by simp))
  case h_9 => exact storeC_dep (h _ (by simp)) (h _ (by simp))
  case h_10 => exact nilCheckC_dep (h _ (by simp))
  case h_11 => exact fieldAddrC_dep (h _ (by simp))
  case h_12 => exact fieldC_dep (h _ (by simp))
  case h_13 => exact indexAddrC_dep (h _ (by simp)) (h _ (by simp))
  case h_14 => exact indexC_dep (h _ (by simp)) (h _ (by simp))
  case h_15 =>
    refine sliceC_dep (h _ (by simp)) (fun w hw => h w ?_) (fun w hw => h w ?_) (fun w hw => h w ?_) <;> (have := Option.mem_def.1 hw; simp [this])
  case h_16 => exact extractC_dep (h _ (by simp))
  case h_17 =>
    simp only
    rw [evL_dep (t := t) (t' := t') fun x hx => h x (by simp; exact .inl (by simpa using hx)), evL_dep (t := t) (t' := t') fun x hx => h x (by simp; exact .inr (by simpa using hx))]
  case h_18 => exact makeInterfaceC_dep (h _ (by simp))
  case h_19 => exact makeSliceC_dep (h _ (by simp)) (h _ (by simp))
  case h_20 => rfl
  case h_21 => exact lookupC_dep (h _ (by simp)) (h _ (by simp))
  case h_22 => exact mapUpdateC_dep (h _ (by simp)) (h _ (by simp)) (h _ (by simp))
  case h_23 => exact typeAssertC_dep (h _ (by simp))
  case h_24 => exact panicC_dep (h _ (by simp))
  case h_25 => exact binC_dep hp (h _ (by simp)) (h _ (by simp))
  case h_26 => exact hp
  case h_27 => exact convC_dep hp (h _ (by simp))
  case h_28 _ f args ts =>
    have h1 : evL G args.toList t = evL G args.toList t' := evL_dep fun x hx => h x (by simp [Call.operands]; exact .inr (by simpa using hx))
    have h2 : evC G f t = evC G f t' := h f (by simp [Call.operands])
    unfold callC
    cases f <;> simp only [h1, h2]
  case h_29 _ b args ts =>
    have h1 : ∀ x ∈ args.toList, evC G x t = evC G x t' := fun x hx => h x (by simp [Call.operands]; simpa using hx)
    suffices key : ∀ F, builtinC P G o b args.toList ts.toList = F → F t s = F t' s from key _ rfl
    intro F hF
    unfold builtinC at hF
    split at hF <;> subst hF <;> (try rename_i e1 e2) <;> first
      | (rw [e1] at h1; exact appendC_dep (h1 _ (by simp)) (h1 _ (by simp)))
      | (rw [e1] at h1; exact lenC_dep (h1 _ (by simp)))
      | (rw [e1] at h1; exact capC_dep (h1 _ (by simp)))
      | (rw [e1] at h1; exact copyC_dep (h1 _ (by simp)) (h1 _ (by simp)))
      | (rw [e1] at h1; exact sliceDataC_dep (h1 _ (by simp)))
      | (rw [e1] at h1; exact unsafeStringC_dep (h1 _ (by simp)) (h1 _ (by simp)))
      | rfl
      | exact hp
  case h_30 _ f args ts =>
    have h1 : evL G args.toList t = evL G args.toList t' := evL_dep fun x hx => h x (by simp [Call.operands]; exact .inr (by simpa using hx))
    have h2 : evC G f t = evC G f t' := h f (by simp [Call.operands])
    simp only [deferC, h1, h2]
end
end Go.Am
end
section
namespace Go.Am
def NewOk (P : Program) (G : Glob) (o : Oper) (t : T) (mk : Nat → AV) (ty : TypeId) (vals : List AV) : Prop :=
  ∀ (E : Env) (w : World) (a : Act), GlobOk E G w → TR E t a → ∃ (vs : List Value) (c : Array Value) (x : Value), VRL E vals vs ∧ (∀ (i : Nat) (v : Value), vs[i]? = some v → c[i]? = some v) ∧
    vals.length ≤ c.size ∧ (execOp a.eval o).run P w = .ok (.value x) (w.alloc (.cells c ty)) ∧ ∀ (E' : Env) (r : Nat), E'.loc r = some (w.heap.size, 0) → E'.bsz w.heap.size = c.size → VR E' (mk r) x
theorem fillA_len : ∀ {l : List ((Nat × Nat) × AV)} {c q : List AV}, fillA c l = some q → q.length = c.length
  | [], c, q, hq => by simp [fillA] at hq; rw [hq]
  | ((of, sz), v) :: l, c, q, hq => by
    simp only [fillA] at hq
    rcases Bool.eq_false_or_eq_true (sz.beq v.cells.length && v.isDef) with hb | hb
    · rw [cond_of_true hb] at hq
      split at hq
      · rename_i c2 hc2
        rw [fillA_len hq, (overwrite_len hc2).1]
      · cases hq
    · rw [cond_of_false hb] at hq; cases hq
section
variable {P : Program} {G : Glob} {callF : CF} {o : Oper} {t : T} {s s1 : St} {v : AV}
theorem box_new {ty : TypeId} {x : Operand} (ho : o.op = .box ty x) (e : boxC ty (evC G x) t s = .val v s1) : ∃ mk ty vals, v = mk s.next ∧ s1 = pushRow s ty vals ∧ NewOk P G o t mk ty vals := by
  unfold boxC at e
  rcases Bool.eq_false_or_eq_true ((evC G x t).cells.all AV.single) with hb | hb
  · rw [cond_of_true hb] at e
    cases e
    refine ⟨fun r => .ptr r 0, ty, _, rfl, rfl, fun E w a hG ht => ?_⟩
    have hx := evC_ok hG ht x
    have hc := hx.cells (single_ne hb)
    exact ⟨_, (a.eval x).cells, _, hc, fun i v hi => by simpa using hi, by rw [hc.length]; simp, by simp [execOp, ho, run_box], fun E' r h1 _ => .ptr (base := 0) 0 h1⟩
  · rw [cond_of_false hb] at e; cases e
theorem alloc_new {ty : TypeId} (ho : o.op = .alloc ty) (e : allocC ty (zeroT P ty) t s = .val v s1) : ∃ mk ty vals, v = mk s.next ∧ s1 = pushRow s ty vals ∧ NewOk P G o t mk ty vals := by
  cases hz : zeroT P ty with
  | none => rw [hz] at e; cases e
  | some z =>
    rw [hz] at e
    cases e
    refine ⟨fun r => .ptr r 0, ty, _, rfl, rfl, fun E w a _ _ => ?_⟩
    obtain ⟨z', h1, h2⟩ := zeroT_run hz w
    have hc := (ofV_ok E h1).cells (fun e => ofV_ne (by rw [h1, e]))
    exact ⟨_, z'.cells, _, hc, fun i v hi => by simpa using hi, by rw [hc.length]; simp, by simp [execOp, ho, Instr.alloc, h2, newVar, Go.newRow], fun E' r h1 _ => .ptr (base := 0) 0 h1⟩
theorem buildSlice_new {ty : TypeId} {len : Nat} {parts : Array (Nat × Operand)} (ho : o.op = .buildSlice ty len parts) (e : buildSliceC P G ty len parts.toList t s = .val v s1) :
    ∃ mk ty vals, v = mk s.next ∧ s1 = pushRow s ty vals ∧ NewOk P G o t mk ty vals := by
  cases he : sliceElemT P ty with
  | none => simp only [buildSliceC, he] at e; cases e
  | some el =>
    have hu := sliceElemT_und he
    cases hs : sizeT P el with
    | none => simp only [buildSliceC, he, hs] at e; cases e
    | some n =>
      cases hz : zeroT P el with
      | none => simp only [buildSliceC, he, hs, hz] at e; cases e
      | some z =>
        obtain ⟨ie, z', i1, i2, i3⟩ := zeroT_info hz
        obtain ⟨ie2, e1, e2⟩ := sizeT_info hs
        rw [i1] at e1; cases e1
        simp only [buildSliceC, he, hs, hz] at e
        rcases Bool.eq_false_or_eq_true (n.beq z.cells.length && Nat.ble (len * n) 16777216 && Nat.blt 0 n) with hb | hb
        · rw [cond_of_true hb] at e
          rw [Bool.and_eq_true, Bool.and_eq_true] at hb
          have hn := Nat.eq_of_beq_eq_true hb.1.1
          have hle := Nat.le_of_ble_eq_true hb.1.2
          have hn0 : 0 < n := Nat.le_of_ble_eq_true hb.2
          split at e
          · rename_i ps hps
            split at e
            · rename_i cs hcs
              rcases Bool.eq_false_or_eq_true (cs.all AV.single) with hb2 | hb2
              · rw [cond_of_true hb2] at e
                cases e
                refine ⟨fun r => .sl r 0 len n true, el, cs, rfl, rfl, fun E w a hG ht => ?_⟩
                have hparts : (parts.map fun (i, x) => (i, a.eval x)).toList = parts.toList.map fun p => (p.1, a.eval p.2) := by simp
                have hzc : VRL E z.cells z'.cells.toList := (ofV_ok E i3).cells (fun e => ofV_ne (by rw [i3, e]))
                obtain ⟨vs, v1, v2⟩ := zeros_ok (n := len) (m := len * n) hzc (by rw [← hn]; exact Nat.le_refl _)
                have hvl := v1.length
                rw [replic_len, ← hn] at hvl
                have hvs : VRL E (replic len z.cells) ((Array.range (len * n)).map (z'.cells[· % z'.cells.size]!)).toList := by
                  have : vs = ((Array.range (len * n)).map (z'.cells[· % z'.cells.size]!)).toList := by
                    apply List.ext_getElem?
                    intro i
                    cases hvi : vs[i]? with
                    | some v => rw [Array.getElem?_toList, v2 i v hvi]
                    | none =>
                      symm
                      rw [List.getElem?_eq_none_iff]
                      rw [List.getElem?_eq_none_iff] at hvi
                      simp; omega
                  rw [← this]; exact v1
                have hpl := zipParts_ok (place := fun i => some (i * n, n)) hG ht parts.toList hps
                obtain ⟨cs', g1, g2⟩ := fill_ok hpl hvs hcs
                have hcl := g2.length
                simp only [Array.length_toList] at hcl
                have hrun : (Instr.buildSlice ty len (parts.map fun (i, x) => (i, a.eval x))).run P w = .ok (.slice (some ⟨w.heap.size, 0, none⟩) len len) (w.alloc (.cells cs' el)) := by
                  have hbig : ¬ len * ie.size > 2 ^ 24 := by rw [e2]; omega
                  subst e2
                  by_cases h0 : len * ie.size = 0
                  · have hl0 : len = 0 := by rcases Nat.mul_eq_zero.1 h0 with h1 | h1 <;> omega
                    subst hl0
                    rw [h0, show Array.range 0 = #[] from rfl, Array.map_empty] at g1
                    simp [Instr.buildSlice, run_underlying hu, sizeOf, typeInfo, i1, show Array.range 0 = #[] from rfl, g1, Go.newRow]
                  · simp [Instr.buildSlice, run_underlying hu, sizeOf, typeInfo, zeroValue, i1, i2, hbig, h0, g1, Go.newRow]
                refine ⟨_, cs', .slice (some ⟨w.heap.size, 0, none⟩) len len, g2, fun i v hi => by simpa using hi, by omega, by simp only [execOp, ho, Sem.run_bind, hrun, Result.andThen_ok]; rfl, fun E' r h1 h2 => ?_⟩
                refine .sl (base := 0) h1 (Nat.le_refl _) (fun _ => rfl) (fun _ => ⟨rfl, ?_⟩) (by simp)
                rw [h2]
                have hfl : cs.length = len * n := by rw [fillA_len hcs, replic_len, ← hn]
                omega
              · rw [cond_of_false hb2] at e; cases e
            · cases e
          · cases e
        · rw [cond_of_false hb] at e; cases e
theorem opC_new (hk : kdOf P o = .new) (e : opC P G callF o t s = .val v s1) : ∃ mk ty vals, v = mk s.next ∧ s1 = pushRow s ty vals ∧ NewOk P G o t mk ty vals := by
  cases ho : o.op <;> simp only [kdOf, ho] at hk <;> try (cases hk; done)
  case alloc ty => simp only [opC, ho] at e; exact alloc_new ho e
  case box ty x => simp only [opC, ho] at e; exact box_new ho e
  case buildSlice ty n ps => simp only [opC, ho] at e; exact buildSlice_new ho e
  case slice ty x lo hi mx => split at hk <;> cases hk
  case convert src dst x => split at hk <;> cases hk
  case call c =>
    obtain ⟨cal, args, ts⟩ := c
    cases cal with
    | builtin b =>
      cases b <;> try (cases hk; done)
      simp only at hk
      split at hk
      · split at hk <;> cases hk
      · cases hk
    | _ => cases hk
end
end Go.Am
end
section
namespace Go.Am
theorem subset_bit {a b j : Nat} (h : subset a b = true) (hj : a.testBit j = true) : b.testBit j = true := by
  have h1 : a &&& b = a := Nat.eq_of_beq_eq_true h
  have : (a &&& b).testBit j = true := by rw [h1]; exact hj
  rw [Nat.testBit_and, Bool.and_eq_true] at this
  exact this.2
theorem bit_or {a j k : Nat} : (a ||| 2 ^ k).testBit j = true ↔ a.testBit j = true ∨ k = j := by
  rw [Nat.testBit_or, Bool.or_eq_true, Nat.testBit_two_pow]; simp
theorem hasN_iff {d : Nat} : ∀ {l : List Nat}, hasN d l = true ↔ d ∈ l
  | [] => by simp [hasN]
  | x :: l => by
    simp only [hasN]
    rcases Bool.eq_false_or_eq_true (x.beq d) with h | h
    · have := Nat.eq_of_beq_eq_true h
      subst this; simp
    · have : x ≠ d := fun e => by subst e; simp at h
      rw [cond_of_false h, hasN_iff, List.mem_cons]
      constructor
      · exact .inr
      · rintro (h1 | h1)
        · exact absurd h1.symm this
        · exact h1
theorem orAll_bit {acc : List Nat} {j : Nat} : ∀ {l : List Nat}, (orAll acc l).testBit j = true ↔ ∃ e ∈ l, e = j ∨ (acc.getD e 0).testBit j = true
  | [] => by simp [orAll]
  | e :: l => by
    simp only [orAll]
    rw [Nat.testBit_or, Nat.testBit_or, Bool.or_eq_true, Bool.or_eq_true, Nat.testBit_two_pow, orAll_bit]
    simp
theorem befGo_spec : ∀ (os : List Oper) (acc : List Nat), (befGo os acc).length = acc.length + os.length ∧ (∀ i, i < acc.length → (befGo os acc)[i]? = acc[i]?) ∧
    ∀ k o, os[k]? = some o → (befGo os acc)[acc.length + k]? = some (orAll ((befGo os acc).take (acc.length + k)) (edgesOf o))
  | [], acc => ⟨by simp [befGo], fun _ _ => rfl, fun k o h => by simp at h⟩
  | o :: os, acc => by
    obtain ⟨h1, h2, h3⟩ := befGo_spec os (acc ++ [orAll acc (edgesOf o)])
    simp only [befGo]
    refine ⟨by rw [h1]; simp; omega, fun i hi => by rw [h2 i (by simp; omega), List.getElem?_append_left hi], fun k o' hk => ?_⟩
    cases k with
    | zero =>
      simp only [List.getElem?_cons_zero, Option.some.injEq] at hk
      subst hk
      have : (befGo os (acc ++ [orAll acc (edgesOf o)])).take acc.length = acc := by
        apply List.ext_getElem?
        intro i
        rw [List.getElem?_take]
        split
        · rename_i hi; rw [h2 i (by simp; omega), List.getElem?_append_left hi]
        · rename_i hi; rw [List.getElem?_eq_none (by omega)]
      rw [Nat.add_zero, this, h2 acc.length (by simp)]
      simp
    | succ k =>
      have := h3 k o' (by simpa using hk)
      simp only [List.length_append, List.length_singleton] at this
      rw [show acc.length + (k + 1) = acc.length + 1 + k by omega]
      exact this
def befs (ops : Array Oper) : List Nat := befGo ops.toList []
theorem befs_bit {ops : Array Oper} {i : Nat} {o : Oper} (ho : ops[i]? = some o) {j : Nat} :
    ((befs ops).getD i 0).testBit j = true ↔ ∃ e ∈ edgesOf o, e = j ∨ (e < i ∧ ((befs ops).getD e 0).testBit j = true) := by
  obtain ⟨h1, _, h3⟩ := befGo_spec ops.toList []
  have := h3 i o (by simpa using ho)
  simp only [List.length_nil, Nat.zero_add] at this
  have e1 : (befs ops).getD i 0 = orAll ((befs ops).take i) (edgesOf o) := by
    unfold befs; rw [List.getD_eq_getElem?_getD, this]; rfl
  rw [e1, orAll_bit]
  constructor
  · rintro ⟨e, he, h | h⟩
    · exact ⟨e, he, .inl h⟩
    · refine ⟨e, he, .inr ?_⟩
      by_cases hlt : e < i
      · refine ⟨hlt, ?_⟩
        rw [List.getD_eq_getElem?_getD, List.getElem?_take, if_pos hlt] at h
        rwa [List.getD_eq_getElem?_getD]
      · rw [List.getD_eq_getElem?_getD, List.getElem?_take, if_neg hlt] at h
        simp at h
  · rintro ⟨e, he, h | ⟨hlt, h⟩⟩
    · exact ⟨e, he, .inl h⟩
    · refine ⟨e, he, .inr ?_⟩
      rw [List.getD_eq_getElem?_getD, List.getElem?_take, if_pos hlt]
      rwa [List.getD_eq_getElem?_getD] at h
theorem platsGo_spec {P : Program} {ops : Array Oper} : ∀ {i : Nat} {bs : List Nat} {os : List Oper} {p : Plat}, p ∈ platsGo P ops i bs os →
    ∃ k, p.i = i + k ∧ os[k]? = some p.o ∧ bs[k]? = some p.bef ∧ p.kd = kdOf P p.o ∧ p.dst = p.o.dst ∧ p.looks = p.o.looksAt ops
  | i, [], os, p, h => by simp [platsGo] at h
  | i, b :: bs, [], p, h => by simp [platsGo] at h
  | i, b :: bs, o :: os, p, h => by
    simp only [platsGo, List.mem_cons] at h
    rcases h with rfl | h
    · exact ⟨0, rfl, rfl, rfl, rfl, rfl, rfl⟩
    · obtain ⟨k, h1, h2, h3, h4⟩ := platsGo_spec h
      exact ⟨k + 1, by omega, h2, h3, h4⟩
theorem platsGo_all {P : Program} {ops : Array Oper} : ∀ {i : Nat} {bs : List Nat} {os : List Oper}, bs.length = os.length → ∀ k, k < os.length → ∃ p ∈ platsGo P ops i bs os, p.i = i + k
  | i, [], [], _, k, h => by simp at h
  | i, b :: bs, [], h, _, _ => by simp at h
  | i, [], o :: os, h, _, _ => by simp at h
  | i, b :: bs, o :: os, h, k, hk => by
    simp only [platsGo]
    cases k with
    | zero => exact ⟨_, List.mem_cons_self .., rfl⟩
    | succ k =>
      obtain ⟨p, h1, h2⟩ := platsGo_all (P := P) (ops := ops) (i := i + 1) (by simpa using h) k (by simpa using hk)
      exact ⟨p, List.mem_cons_of_mem _ h1, by omega⟩
theorem nextOf_mem {done : Nat} {e : Bool} : ∀ {ps : List Plat} {p : Plat}, nextOf done e ps = some p → p ∈ ps
  | [], p, h => by simp [nextOf] at h
  | q :: ps, p, h => by
    simp only [nextOf] at h
    rcases Bool.eq_false_or_eq_true (!done.testBit q.i && subset q.bef done && (e || !q.kd.isEff)) with hb | hb
    · rw [cond_of_true hb] at h; cases h; simp
    · rw [cond_of_false hb] at h; exact List.mem_cons_of_mem _ (nextOf_mem h)
theorem orderOf_mem {ps : List Plat} : ∀ {f done : Nat} {p : Plat}, p ∈ orderOf ps f done → p ∈ ps
  | 0, _, p, h => by simp [orderOf] at h
  | f + 1, done, p, h => by
    simp only [orderOf] at h
    split at h
    · rename_i q hq
      rcases List.mem_cons.1 h with rfl | h
      · split at hq
        · rename_i q' hq'; cases hq; exact nextOf_mem hq'
        · exact nextOf_mem hq
      · exact orderOf_mem h
    · simp at h
theorem orderOk_spec : ∀ {l front : List Plat} {done effs : Nat}, orderOk done effs l = true →
    (∀ j, done.testBit j = true ↔ ∃ p ∈ front, p.i = j) → (∀ j, effs.testBit j = true ↔ ∃ p ∈ front, p.kd.isEff = true ∧ p.i = j) →
    ∀ k p, l[k]? = some p → (∀ j, p.bef.testBit j = true → ∃ q ∈ front ++ l.take k, q.i = j) ∧ (∀ q ∈ front ++ l.take k, q.i ≠ p.i) ∧
      ∀ q ∈ front ++ l.take k, q.kd.isEff = true → p.bef.testBit q.i = true
  | [], _, _, _, _, _, _, k, p, h => by simp at h
  | q :: l, front, done, effs, h, hd, he, k, p, hk => by
    simp only [orderOk, Bool.and_eq_true] at h
    obtain ⟨h1, h2, h3, h4⟩ := h
    cases k with
    | zero =>
      simp only [List.getElem?_cons_zero, Option.some.injEq] at hk
      subst hk
      simp only [List.take_zero, List.append_nil]
      refine ⟨fun j hj => (hd j).1 (subset_bit h1 hj), fun r hr e => ?_, fun r hr hre => subset_bit h3 ((he _).2 ⟨r, hr, hre, rfl⟩)⟩
      have := (hd q.i).2 ⟨r, hr, e⟩
      rw [this] at h2; simp at h2
    | succ k =>
      have := orderOk_spec (front := front ++ [q]) h4 (fun j => by
        rw [bit_or, hd]
        constructor
        · rintro (⟨r, hr, e⟩ | e)
          · exact ⟨r, by simp [hr], e⟩
          · exact ⟨q, by simp, e⟩
        · rintro ⟨r, hr, e⟩
          rcases List.mem_append.1 hr with hr | hr
          · exact .inl ⟨r, hr, e⟩
          · simp at hr; subst hr; exact .inr e) (fun j => by
        rcases Bool.eq_false_or_eq_true q.kd.isEff with hq | hq
        · rw [hq, cond_true, bit_or, he]
          constructor
          · rintro (⟨r, hr, e⟩ | e)
            · exact ⟨r, by simp [hr], e⟩
            · exact ⟨q, by simp, hq, e⟩
          · rintro ⟨r, hr, e⟩
            rcases List.mem_append.1 hr with hr | hr
            · exact .inl ⟨r, hr, e⟩
            · simp at hr; subst hr; exact .inr e.2
        · rw [hq, cond_false, he]
          constructor
          · rintro ⟨r, hr, e⟩; exact ⟨r, by simp [hr], e⟩
          · rintro ⟨r, hr, e⟩
            rcases List.mem_append.1 hr with hr | hr
            · exact ⟨r, hr, e⟩
            · simp at hr; subst hr; rw [hq] at e; cases e.1) k p (by simpa using hk)
      simpa using this
theorem itemsOf_spec : ∀ {l front : List Plat} {items : List Item}, itemsOf front l = some items → items.length = l.length ∧
    ∀ k p, l[k]? = some p → ∃ it, items[k]? = some it ∧ it.p = p ∧ (p.kd.isEff = true →
      (∀ f ∈ floats p (front ++ l.take k), f.kd.isRead = true → floatOk p (front ++ l.take k) f = true ∧ f.o ∈ it.chk) ∧ ∀ f ∈ floats p (front ++ l.take k), ∀ d, f.dst = some d → d ∈ it.fl)
  | [], _, items, h => by simp [itemsOf] at h; subst h; simp
  | q :: l, front, items, h => by
    simp only [itemsOf] at h
    split at h
    · rename_i is his
      obtain ⟨h1, h2⟩ := itemsOf_spec his
      have tail : ∀ k p, l[k]? = some p → ∃ it, is[k]? = some it ∧ it.p = p ∧ (p.kd.isEff = true →
          (∀ f ∈ floats p (front ++ (q :: l).take (k + 1)), f.kd.isRead = true → floatOk p (front ++ (q :: l).take (k + 1)) f = true ∧ f.o ∈ it.chk) ∧ ∀ f ∈ floats p (front ++ (q :: l).take (k + 1)), ∀ d, f.dst = some d → d ∈ it.fl) := by
        intro k p hk
        have := h2 k p hk
        simpa using this
      rcases Bool.eq_false_or_eq_true q.kd.isEff with hq | hq
      · rw [hq, cond_true] at h
        rcases Bool.eq_false_or_eq_true ((floats q front).all fun f => !f.kd.isRead || floatOk q front f) with hb | hb
        · rw [cond_of_true hb] at h
          cases h
          refine ⟨by simp [h1], fun k p hk => ?_⟩
          cases k with
          | zero =>
            simp only [List.getElem?_cons_zero, Option.some.injEq] at hk
            subst hk
            refine ⟨_, rfl, rfl, fun _ => ?_⟩
            simp only [List.take_zero, List.append_nil]
            refine ⟨fun f hf hr => ⟨?_, ?_⟩, fun f hf d hd => ?_⟩
            · have := List.all_eq_true.1 hb f hf
              simpa [hr] using this
            · exact List.mem_map.2 ⟨f, List.mem_filter.2 ⟨hf, hr⟩, rfl⟩
            · exact List.mem_filterMap.2 ⟨f, hf, hd⟩
          | succ k => exact tail k p (by simpa using hk)
        · rw [cond_of_false hb] at h; cases h
      · rw [hq, cond_false] at h
        cases h
        refine ⟨by simp [h1], fun k p hk => ?_⟩
        cases k with
        | zero =>
          simp only [List.getElem?_cons_zero, Option.some.injEq] at hk
          subst hk
          exact ⟨_, rfl, rfl, fun e => by rw [hq] at e; cases e⟩
        | succ k => exact tail k p (by simpa using hk)
    · cases h
structure PlanOk (P : Program) (ops : Array Oper) (l : List Plat) (items : List Item) : Prop where
  plat : ∀ (k : Nat) (p : Plat), l[k]? = some p → ops[p.i]? = some p.o ∧ p.kd = kdOf P p.o ∧ p.dst = p.o.dst ∧ p.looks = p.o.looksAt ops ∧ p.bef = (befs ops).getD p.i 0
  all : ∀ i, i < ops.size → ∃ (k : Nat) (p : Plat), l[k]? = some p ∧ p.i = i
  ord : ∀ (k : Nat) (p : Plat), l[k]? = some p → ∀ j, p.bef.testBit j = true → ∃ (k' : Nat) (p' : Plat), k' < k ∧ l[k']? = some p' ∧ p'.i = j
  uniq : ∀ (k k' : Nat) (p p' : Plat), l[k]? = some p → l[k']? = some p' → p.i = p'.i → k = k'
  chain : ∀ (k : Nat) (p : Plat), l[k]? = some p → ∀ (k' : Nat) (q : Plat), k' < k → l[k']? = some q → q.kd.isEff = true → p.bef.testBit q.i = true
  pairs : ∀ (k k' : Nat) (p q : Plat), l[k]? = some p → l[k']? = some q → pairOk p q = true
  len : items.length = l.length
  size : l.length = ops.size
  item : ∀ (k : Nat) (p : Plat), l[k]? = some p → ∃ it, items[k]? = some it ∧ it.p = p ∧ (p.kd.isEff = true →
      (∀ (k' : Nat) (f : Plat), k' < k → l[k']? = some f → f.kd.isEff = false → p.bef.testBit f.i = false →
        (f.kd.isRead = true → (∀ (j : Nat) (q : Plat) (d : Nat), j ≤ k → l[j]? = some q → q.dst = some d → d ∈ f.looks → f.bef.testBit q.i = true) ∧ f.o ∈ it.chk) ∧ ∀ d, f.dst = some d → d ∈ it.fl))
  nosel : ∀ (i : Nat) (o : Oper), ops[i]? = some o → noSel o = true
theorem mem_take {α : Type} {l : List α} {k : Nat} {x : α} : x ∈ l.take k ↔ ∃ j, j < k ∧ l[j]? = some x := by
  rw [List.mem_iff_getElem?]
  constructor
  · rintro ⟨j, hj⟩
    rw [List.getElem?_take] at hj
    split at hj
    · exact ⟨j, ‹_›, hj⟩
    · cases hj
  · rintro ⟨j, hj, e⟩
    exact ⟨j, by rw [List.getElem?_take, if_pos hj]; exact e⟩
theorem planOf_ok {P : Program} {ops : Array Oper} {items : List Item} (h : planOf P ops = some items) : ∃ l, PlanOk P ops l items := by
  unfold planOf at h
  simp only at h
  generalize hl : orderOf (platsGo P ops 0 (befGo ops.toList []) ops.toList) ops.toList.length 0 = l at h
  rcases Bool.eq_false_or_eq_true (l.length.beq ops.toList.length && ((platsGo P ops 0 (befGo ops.toList []) ops.toList).all fun p => hasN p.i (l.map (·.i))) && orderOk 0 0 l && pairsOk l && ops.toList.all noSel) with hb | hb
  · rw [cond_of_true hb] at h
    simp only [Bool.and_eq_true] at hb
    obtain ⟨⟨⟨⟨b1, b2⟩, b3⟩, b4⟩, b5⟩ := hb
    have hord := orderOk_spec (front := []) b3 (by simp) (by simp)
    simp only [List.nil_append] at hord
    obtain ⟨i1, i2⟩ := itemsOf_spec h
    simp only [List.nil_append] at i2
    have hlen : (befGo ops.toList []).length = ops.toList.length := by rw [(befGo_spec ops.toList []).1]; simp
    have huniq : ∀ (k k' : Nat) (p p' : Plat), k' < k → l[k]? = some p → l[k']? = some p' → p.i ≠ p'.i := fun k k' p p' hlt hk hk' e =>
      (hord k p hk).2.1 p' (mem_take.2 ⟨k', hlt, hk'⟩) e.symm
    refine ⟨l, ?_, ?_, ?_, ?_, ?_, ?_, i1, by rw [Nat.eq_of_beq_eq_true b1]; simp, ?_, ?_⟩
    · intro k p hk
      have hm : p ∈ platsGo P ops 0 (befGo ops.toList []) ops.toList := by
        have := List.mem_of_getElem? hk
        rw [← hl] at this
        exact orderOf_mem this
      obtain ⟨j, j1, j2, j3, j4, j5, j6⟩ := platsGo_spec hm
      rw [Nat.zero_add] at j1
      refine ⟨by rw [j1]; simpa using j2, j4, j5, j6, ?_⟩
      rw [j1, List.getD_eq_getElem?_getD]
      unfold befs
      rw [j3]; rfl
    · intro i hi
      obtain ⟨p, h1, h2⟩ := platsGo_all (P := P) (ops := ops) (i := 0) hlen i (by simpa using hi)
      have := hasN_iff.1 (List.all_eq_true.1 b2 p h1)
      obtain ⟨q, h3, h4⟩ := List.mem_map.1 this
      obtain ⟨k, hk⟩ := List.mem_iff_getElem?.1 h3
      exact ⟨k, q, hk, by omega⟩
    · intro k p hk j hj
      obtain ⟨q, h1, h2⟩ := (hord k p hk).1 j hj
      obtain ⟨k', h3, h4⟩ := mem_take.1 h1
      exact ⟨k', q, h3, h4, h2⟩
    · intro k k' p p' hk hk' e
      rcases Nat.lt_trichotomy k k' with h1 | h1 | h1
      · exact absurd e.symm (huniq k' k p' p h1 hk' hk)
      · exact h1
      · exact absurd e (huniq k k' p p' h1 hk hk')
    · intro k p hk k' q hlt hk' he
      exact (hord k p hk).2.2 q (mem_take.2 ⟨k', hlt, hk'⟩) he
    · intro k k' p q hk hk'
      have := List.all_eq_true.1 b4 p (List.mem_of_getElem? hk)
      exact List.all_eq_true.1 this q (List.mem_of_getElem? hk')
    · intro k p hk
      obtain ⟨it, h1, h2, h3⟩ := i2 k p hk
      refine ⟨it, h1, h2, fun he k' f hlt hk' hf hb => ?_⟩
      obtain ⟨h4, h5⟩ := h3 he
      have hm : f ∈ floats p (l.take k) := List.mem_filter.2 ⟨mem_take.2 ⟨k', hlt, hk'⟩, by simp [hf, hb]⟩
      refine ⟨fun hr => ⟨fun j q d hj hq hd hdl => ?_, (h4 f hm hr).2⟩, h5 f hm⟩
      have h6 := (h4 f hm hr).1
      unfold floatOk at h6
      have hq' : q ∈ p :: l.take k := by
        rcases Nat.lt_or_ge j k with h7 | h7
        · exact List.mem_cons_of_mem _ (mem_take.2 ⟨j, h7, hq⟩)
        · have : j = k := by omega
          subst this; rw [hk] at hq; cases hq; simp
      have h8 := List.all_eq_true.1 h6 q hq'
      simp only [hd, Bool.or_eq_true, Bool.not_eq_true'] at h8
      rcases h8 with h8 | h8
      · rw [hasN_iff.2 hdl] at h8; cases h8
      · exact h8
    · intro i o ho
      have : o ∈ ops.toList := by rw [List.mem_iff_getElem?]; exact ⟨i, by simpa using ho⟩
      exact List.all_eq_true.1 b5 o this
  · rw [cond_of_false hb] at h; cases h
end Go.Am
end
section
namespace Go.Am
def OutR (E : Env) : Out → Exit → Prop
  | .normal, .normal => True
  | .exit i, .exit j => i = j
  | .ret, .ret => True
  | .panic x, .panic ch => ∃ v, ch = [{ v := v, recovered := false }] ∧ VR E x v
  | _, _ => False
section
variable {t : T} {dst : Option Nat} {v : AV}
theorem put_n {d : Nat} {p : List Bool} : (t.put d p v).n = t.n := by unfold T.put; cases Nat.blt d t.n <;> rfl
theorem put_ds {d : Nat} {p : List Bool} : (t.put d p v).ds = t.ds := by unfold T.put; cases Nat.blt d t.n <;> rfl
theorem putC_n : (putC dst v t).n = t.n := by cases dst with | none => rfl | some d => exact put_n
theorem putC_ds : (putC dst v t).ds = t.ds := by cases dst with | none => rfl | some d => exact put_ds
theorem put_get_ne {d x : Nat} (h : d ≠ x) : getT (pathOf x) (t.put d (pathOf d) v) = getT (pathOf x) t := by
  unfold T.put
  cases Nat.blt d t.n with
  | false => rfl
  | true => simp only [cond_true, getT]; rw [Tr.getP_setP_ne v _ _ t.tr (fun e => h (pathOf_inj e))]
theorem put_get_same {d : Nat} : getT (pathOf d) (t.put d (pathOf d) v) = if d < t.n then v else getT (pathOf d) t := by
  unfold T.put
  rcases Bool.eq_false_or_eq_true (Nat.blt d t.n) with hb | hb
  · rw [cond_of_true hb, if_pos (show d < t.n from Nat.le_of_ble_eq_true hb)]; simp [getT, Tr.getP_setP_same]
  · rw [cond_of_false hb, if_neg]
    intro h; rw [show Nat.blt d t.n = true from Nat.ble_eq_true_of_le h] at hb; cases hb
theorem putC_get_ne {x : Nat} (h : dst ≠ some x) : getT (pathOf x) (putC dst v t) = getT (pathOf x) t := by
  cases dst with
  | none => rfl
  | some d => exact put_get_ne fun e => h (by rw [e])
end
theorem putC_get_ge {t : T} {dst : Option Nat} {v : AV} {x : Nat} (h : dst ≠ some x ∨ t.n ≤ x) : getT (pathOf x) (Am.putC dst v t) = getT (pathOf x) t := by
  by_cases hd : dst = some x
  · subst hd
    have : ¬ x < t.n := by rcases h with h | h; exact absurd rfl h; omega
    show getT (pathOf x) (t.put x (pathOf x) v) = _
    rw [put_get_same, if_neg this]
  · exact putC_get_ne hd
theorem TR.putC {E : Env} {t : T} {a : Act} (h : TR E t a) (dst : Option Nat) {x : AV} {v : Value} (hv : VR E x v) : TR E (putC dst x t) (a.put dst v) := by
  cases dst with
  | none => exact h
  | some d => exact h.put d hv
theorem vr_undef (E : Env) : VR E (.tup []) Go.undef := .tup .nil
section
variable {P : Program} {G : Glob} {callF : CF} {ops : Array Oper} {Q : Exit → Act → World → Prop}
theorem guard_ok {E : Env} {t : T} {a : Act} (h : TR E t a) {o : Oper} {b : Bool} (hg : guardC ops o.guard t = some b) : Region.wanted o (yielded ops a.tmps) = b := by
  unfold Region.wanted
  cases hgo : o.guard with
  | none => rw [hgo] at hg; simp [guardC] at hg; simp [hg]
  | some g =>
    obtain ⟨j, want⟩ := g
    rw [hgo] at hg
    simp only
    simp only [guardC] at hg
    unfold yielded
    cases hd : (ops[j]?).bind (·.dst) with
    | none => simp only [hd] at hg; simp at hg; simp [hg]
    | some d =>
      simp only [hd] at hg
      have hv := h.val d
      rw [Array.getD_eq_getD_getElem?] at hv
      simp only [Option.bind_some]
      split at hg
      · rename_i b' e
        rw [e] at hv
        cases ht : a.tmps[d]? with
        | none => rw [ht] at hv; simp only [Option.getD_none, undef] at hv; cases hv
        | some u =>
          rw [ht] at hv
          simp only [Option.getD_some] at hv
          cases hv
          cases want <;> cases b' <;> simp_all
      · rename_i e
        rw [e] at hv
        simp only [Option.some.injEq] at hg
        subst hg
        cases ht : a.tmps[d]? with
        | none => simp
        | some u =>
          rw [ht] at hv
          simp only [Option.getD_some] at hv
          cases hv
          simp
      · cases hg
def Handle (Q : Exit → Act → World → Prop) (K : Act → World → Prop) (E : Env) (s : St) (w : World) (a : Act) (o : Oper) : Nx → Prop
  | .val x s' => ∀ v' E' w', Step E s w E' s' w' → VR E' x v' → K (a.put o.dst v') w'
  | .skip s' => ∀ E' w', Step E s w E' s' w' → K (a.put o.dst undef) w'
  | .dfr f args s' => s' = s → ∀ d, DfrR E (f, args) d → K ({ a with defers := d :: a.defers }.put o.dst undef) w
  | .panic x s' => ∀ v' E' w', Step E s w E' s' w' → VR E' x v' → Q (.panic [{ v := v', recovered := false }]) a w'
  | .fail => False
theorem wpOp_ok {E : Env} {s : St} {w : World} {a : Act} {o : Oper} {i : Nat} {K : Act → World → Prop} {nx : Nx} (hi : ops[i]? = some o) (hw : Region.wanted o (yielded ops a.tmps) = true)
    (h : OpOk P E s w o a nx) (hh : Handle Q K E s w a o nx) : wpOp P ops Q i K a w := by
  unfold wpOp
  simp only [hi, hw, if_true]
  left
  unfold Oper.wp
  cases nx with
  | val x s' =>
    rcases h with ⟨v', w', E', hr, hs, hv⟩ | ⟨f, args, hr, hc⟩
    · rw [hr]; exact hh v' E' w' hs hv
    · rw [hr]
      exact Calls.mono hc fun e w'' ⟨v', E', he, hs, hv⟩ => by subst he; exact hh v' E' w'' hs hv
  | skip s' =>
    obtain ⟨w', E', hr, hs⟩ := h
    rw [hr]; exact hh E' w' hs
  | dfr f args s' =>
    obtain ⟨e, d, hr, hd⟩ := h
    rw [hr]; exact hh e d hd
  | panic x s' =>
    rcases h with ⟨v', w', E', hr, hs, hv⟩ | ⟨f, args, hr, hc⟩
    · rw [hr]; exact hh v' E' w' hs hv
    · rw [hr]
      exact Calls.mono hc fun e w'' ⟨v', E', he, hs, hv⟩ => by subst he; exact hh v' E' w'' hs hv
  | fail => exact hh.elim
theorem wpOp_unwanted {w : World} {a : Act} {o : Oper} {i : Nat} {K : Act → World → Prop} (hi : ops[i]? = some o) (hw : Region.wanted o (yielded ops a.tmps) = false)
    (h : K (a.put o.dst undef) w) : wpOp P ops Q i K a w := by
  unfold wpOp
  simp only [hi, hw, Bool.false_eq_true, if_false]
  exact h
inductive ItemRun (P : Program) (G : Glob) (callF : CF) (ops : Array Oper) (it : Item) (t : T) (s : St) : Out → T → St → Prop
  | unwanted (hg : guardC ops it.p.o.guard t = some false) : ItemRun P G callF ops it t s .normal (putC it.p.dst (.tup []) t) s
  | plain (v : AV) (s' : St) (hg : guardC ops it.p.o.guard t = some true) (hk : it.p.kd.isEff = false) (h : opC P G callF it.p.o t s = .val v s') : ItemRun P G callF ops it t s .normal (putC it.p.dst v t) s'
  | val (v : AV) (s' : St) (hg : guardC ops it.p.o.guard t = some true) (hk : it.p.kd.isEff = true) (h : opC P G callF it.p.o t s = .val v s')
      (hc : againsC P G callF ops it.chk (putC it.p.dst v t) s' = true) : ItemRun P G callF ops it t s .normal (putC it.p.dst v t) s'
  | skip (s' : St) (hg : guardC ops it.p.o.guard t = some true) (hk : it.p.kd.isEff = true) (h : opC P G callF it.p.o t s = .skip s')
      (hc : againsC P G callF ops it.chk (putC it.p.dst (.tup []) t) s' = true) : ItemRun P G callF ops it t s .normal (putC it.p.dst (.tup []) t) s'
  | dfr (f : FuncId) (args : List AV) (s' : St) (hg : guardC ops it.p.o.guard t = some true) (hk : it.p.kd.isEff = true) (h : opC P G callF it.p.o t s = .dfr f args s')
      (hc : againsC P G callF ops it.chk (putC it.p.dst (.tup []) { t with ds := (f, args) :: t.ds }) s' = true) :
      ItemRun P G callF ops it t s .normal (putC it.p.dst (.tup []) { t with ds := (f, args) :: t.ds }) s'
  | panic (v : AV) (s' : St) (hg : guardC ops it.p.o.guard t = some true) (hk : it.p.kd.isEff = true) (h : opC P G callF it.p.o t s = .panic v s') : ItemRun P G callF ops it t s (.panic v) (maskT it.fl t) s'
theorem itemC_run {it : Item} {t t' : T} {s s' : St} {o : Out} (h : itemC P G callF ops it t s = .mk o t' s') : ItemRun P G callF ops it t s o t' s' := by
  unfold itemC at h
  have key : ∀ (hg : guardC ops it.p.o.guard t = some true), (bif it.p.kd.isEff then runEff (opC P G callF it.p.o) (Am.putC it.p.dst) (againsC P G callF ops it.chk) it.fl else runPlain (opC P G callF it.p.o) (Am.putC it.p.dst)) t s = .mk o t' s' →
      ItemRun P G callF ops it t s o t' s' := by
    intro hg h
    rcases Bool.eq_false_or_eq_true it.p.kd.isEff with hk | hk
    · rw [cond_of_true hk] at h
      unfold runEff goOn at h
      split at h
      · rename_i v s1 e
        rcases Bool.eq_false_or_eq_true (againsC P G callF ops it.chk (Am.putC it.p.dst v t) s1) with hb | hb
        · rw [cond_of_true hb] at h; cases h; exact .val v _ hg hk e hb
        · rw [cond_of_false hb] at h; cases h
      · rename_i s1 e
        rcases Bool.eq_false_or_eq_true (againsC P G callF ops it.chk (Am.putC it.p.dst (.tup []) t) s1) with hb | hb
        · rw [cond_of_true hb] at h; cases h; exact .skip _ hg hk e hb
        · rw [cond_of_false hb] at h; cases h
      · rename_i f args s1 e
        rcases Bool.eq_false_or_eq_true (againsC P G callF ops it.chk (Am.putC it.p.dst (.tup []) { t with ds := (f, args) :: t.ds }) s1) with hb | hb
        · rw [cond_of_true hb] at h; cases h; exact .dfr f args _ hg hk e hb
        · rw [cond_of_false hb] at h; cases h
      · rename_i v s1 e
        cases h; exact .panic v _ hg hk e
      · cases h
    · rw [cond_of_false hk] at h
      unfold runPlain at h
      split at h
      · rename_i v s1 e
        cases h; exact .plain v _ hg hk e
      · cases h
  cases hg : it.p.o.guard with
  | none =>
    simp only [hg] at h
    exact key (by rw [hg]; rfl) h
  | some g =>
    simp only [hg] at h
    unfold runGuard at h
    split at h
    · rename_i b hb
      rw [← hg] at hb
      cases b with
      | true => exact key hb h
      | false => simp only [cond_false] at h; cases h; exact .unwanted hb
    · cases h
theorem ItemRun.frame {it : Item} {t t' : T} {s s' : St} {o : Out} (h : ItemRun P G callF ops it t s o t' s') (ho : o = .normal) : t'.n = t.n ∧ ∀ x, (it.p.dst ≠ some x ∨ t.n ≤ x) → getT (pathOf x) t' = getT (pathOf x) t := by
  cases h with
  | panic => cases ho
  | dfr f args s' => exact ⟨putC_n, fun x hx => putC_get_ge (t := { t with ds := (f, args) :: t.ds }) hx⟩
  | _ => exact ⟨putC_n, fun x hx => putC_get_ge hx⟩
/-! ## Regions that go in the order of their list -/
theorem wpOp_item (hc : CFok P G callF) {E : Env} {s s' : St} {w : World} {t t' : T} {a : Act} {it : Item} {i : Nat} {out : Out} (hi : ops[i]? = some it.p.o) (hd : it.p.dst = it.p.o.dst)
    (h : Rel E s w) (hG : GlobOk E G w) (ht : TR E t a) (hr : ItemRun P G callF ops it t s out t' s') (hf : it.fl = []) (K : Act → World → Prop)
    (hK : out = .normal → ∀ E' a' w', Step E s w E' s' w' → TR E' t' a' → K a' w')
    (hQ : ∀ x, out = .panic x → ∀ E' w' v', Step E s w E' s' w' → TR E' t' a → VR E' x v' → Q (.panic [{ v := v', recovered := false }]) a w') : wpOp P ops Q i K a w := by
  have hok := opC_ok (o := it.p.o) hc h hG ht
  cases hr with
  | unwanted hg =>
    refine wpOp_unwanted hi (guard_ok ht hg) ?_
    rw [← hd]
    exact hK rfl E _ w (.refl h) (ht.putC _ (vr_undef E))
  | plain v s' hg hk e =>
    rw [e] at hok
    refine wpOp_ok hi (guard_ok ht hg) hok fun v' E' w' hs hv => ?_
    rw [← hd]
    exact hK rfl E' _ w' hs ((ht.mono hs.le).putC _ hv)
  | val v s' hg hk e _ =>
    rw [e] at hok
    refine wpOp_ok hi (guard_ok ht hg) hok fun v' E' w' hs hv => ?_
    rw [← hd]
    exact hK rfl E' _ w' hs ((ht.mono hs.le).putC _ hv)
  | skip s' hg hk e _ =>
    rw [e] at hok
    refine wpOp_ok hi (guard_ok ht hg) hok fun E' w' hs => ?_
    rw [← hd]
    exact hK rfl E' _ w' hs ((ht.mono hs.le).putC _ (vr_undef E'))
  | dfr f args s' hg hk e _ =>
    rw [e] at hok
    refine wpOp_ok hi (guard_ok ht hg) hok fun hss d hd' => ?_
    rw [← hd]
    subst hss
    refine hK rfl E _ w (.refl h) (TR.putC (t := { t with ds := (f, args) :: t.ds }) (a := { a with defers := d :: a.defers }) ?_ _ (vr_undef E))
    exact ⟨ht.size, ht.val, .cons hd' ht.ds⟩
  | panic v s' hg hk e =>
    rw [e] at hok
    refine wpOp_ok hi (guard_ok ht hg) hok fun v' E' w' hs hv => ?_
    refine hQ v rfl E' w' v' hs ?_ hv
    rw [hf]
    exact ht.mono hs.le
theorem plain_ok (hc : CFok P G callF) : ∀ (os : List Oper) (i : Nat), ops.toList.drop i = os → ∀ {E : Env} {s s' : St} {w : World} {t t' : T} {a : Act} {out : Out}, Rel E s w → GlobOk E G w → TR E t a →
    itemsC P G callF ops (os.map fun o => ⟨⟨0, o, .eff, 0, o.dst, []⟩, [], []⟩) t s = .mk out t' s' → (∀ e a' w' E', Step E s w E' s' w' → TR E' t' a' → OutR E' out e → Q e a' w') →
    wpOps P ops Q (List.range' i os.length) a w
  | [], i, _, E, s, s', w, t, t', a, out, h, hG, ht, hr, hQ => by
    simp only [List.map_nil, itemsC, doneC] at hr
    cases hr
    exact hQ .normal a w E (.refl h) ht trivial
  | o :: os, i, hd, E, s, s', w, t, t', a, out, h, hG, ht, hr, hQ => by
    have hi : ops[i]? = some o := by
      have : (ops.toList.drop i)[0]? = some o := by rw [hd]; rfl
      rw [List.getElem?_drop] at this
      simpa using this
    have hd' : ops.toList.drop (i + 1) = os := by
      rw [← List.drop_drop, hd]; rfl
    simp only [List.map_cons, itemsC, thenC] at hr
    simp only [List.length_cons, List.range'_succ]
    rw [wpOps_cons]
    split at hr
    · rename_i out1 t1 s1 e1
      have hrun := itemC_run e1
      split at hr
      · refine wpOp_item hc hi rfl h hG ht hrun rfl _ (fun _ E' a' w' hs hta => ?_) (fun x hx => by cases hx)
        exact plain_ok hc os (i + 1) hd' hs.rel (hG.step h hs) hta hr fun e a'' w'' E'' hs2 ht2 ho => hQ e a'' w'' E'' (hs.trans hs2) ht2 ho
      · rename_i hne
        cases hr
        refine wpOp_item hc hi rfl h hG ht hrun rfl _ (fun e => absurd e hne) (fun x hx E' w' v' hs hta hv => ?_)
        subst hx
        exact hQ _ a w' E' hs hta ⟨v', rfl, hv⟩
    · cases hr
end
end Go.Am
end
section
namespace Go.Am
section
variable (P : Program) (G : Glob) (callF : CF) (ops : Array Oper) (items : List Item) (t0 : T) (s0 : St)
def trC : Nat → Option (T × St)
  | 0 => some (t0, s0)
  | k + 1 => match trC k with
    | some (t, s) => match items[k]? with
      | some it => match itemC P G callF ops it t s with
        | .mk .normal t' s' => some (t', s')
        | _ => none
      | none => none
    | none => none
end
section
variable {P : Program} {G : Glob} {callF : CF} {ops : Array Oper} {Q : Exit → Act → World → Prop} {items : List Item} {l : List Plat} {t0 : T} {s0 : St}
theorem tr_succ {k : Nat} {t' : T} {s' : St} (h : trC P G callF ops items t0 s0 (k + 1) = some (t', s')) :
    ∃ t s it, trC P G callF ops items t0 s0 k = some (t, s) ∧ items[k]? = some it ∧ itemC P G callF ops it t s = .mk .normal t' s' := by
  simp only [trC] at h
  split at h
  · rename_i t s hk
    split at h
    · rename_i it hit
      split at h
      · rename_i t1 s1 e
        cases h
        exact ⟨t, s, it, hk, hit, e⟩
      · cases h
    · cases h
  · cases h
theorem tr_down {m : Nat} : ∀ {k : Nat} {x : T × St}, trC P G callF ops items t0 s0 (k + m) = some x → ∃ t s, trC P G callF ops items t0 s0 k = some (t, s) := by
  induction m with
  | zero => intro k x h; exact ⟨x.1, x.2, h⟩
  | succ m ih =>
    intro k x h
    obtain ⟨t, s, it, h1, _⟩ := tr_succ (k := k + m) (t' := x.1) (s' := x.2) h
    exact ih h1
theorem tr_le {k m : Nat} {x : T × St} (h : trC P G callF ops items t0 s0 m = some x) (hle : k ≤ m) : ∃ t s, trC P G callF ops items t0 s0 k = some (t, s) := by
  obtain ⟨d, rfl⟩ := Nat.exists_eq_add_of_le hle
  exact tr_down h
theorem items_end : ∀ (rest : List Item) (k : Nat) {t t' : T} {s s' : St} {o : Out}, items.drop k = rest → k + rest.length = items.length → trC P G callF ops items t0 s0 k = some (t, s) →
    itemsC P G callF ops rest t s = .mk o t' s' → (o = .normal ∧ trC P G callF ops items t0 s0 items.length = some (t', s')) ∨
      ∃ m t1 s1 it, trC P G callF ops items t0 s0 m = some (t1, s1) ∧ items[m]? = some it ∧ itemC P G callF ops it t1 s1 = .mk o t' s' ∧ o ≠ .normal
  | [], k, t, t', s, s', o, _, hl, hk, h => by
    simp only [itemsC, doneC] at h
    cases h
    simp only [List.length_nil, Nat.add_zero] at hl
    exact .inl ⟨rfl, by rw [← hl]; exact hk⟩
  | it :: rest, k, t, t', s, s', o, hd, hl, hk, h => by
    have hit : items[k]? = some it := by
      have : (items.drop k)[0]? = some it := by rw [hd]; rfl
      rw [List.getElem?_drop] at this
      simpa using this
    have hd' : items.drop (k + 1) = rest := by rw [← List.drop_drop, hd]; rfl
    simp only [itemsC, thenC] at h
    split at h
    · rename_i o1 t1 s1 e1
      split at h
      · refine items_end rest (k + 1) hd' (by simp only [List.length_cons] at hl; omega) ?_ h
        simp only [trC, hk, hit, e1]
      · rename_i hne
        cases h
        exact .inr ⟨k, t, s, it, hk, hit, e1, hne⟩
    · cases h
theorem tr_item (hp : PlanOk P ops l items) {k : Nat} {p : Plat} (hl : l[k]? = some p) {t' : T} {s' : St} (h : trC P G callF ops items t0 s0 (k + 1) = some (t', s')) :
    ∃ t s it, trC P G callF ops items t0 s0 k = some (t, s) ∧ items[k]? = some it ∧ it.p = p ∧ ItemRun P G callF ops it t s .normal t' s' := by
  obtain ⟨t, s, it, h1, h2, h3⟩ := tr_succ h
  obtain ⟨it', h4, h5, _⟩ := hp.item k p hl
  rw [h2] at h4; cases h4
  exact ⟨t, s, it, h1, h2, h5, itemC_run h3⟩
theorem at_of_lt {α : Type} {l : List α} {k : Nat} (h : k < l.length) : ∃ p, l[k]? = some p := ⟨l[k], List.getElem?_eq_getElem h⟩
theorem tr_bound (hp : PlanOk P ops l items) {k : Nat} {x : T × St} (h : trC P G callF ops items t0 s0 (k + 1) = some x) : ∃ p, l[k]? = some p := by
  obtain ⟨_, _, it, _, h2, _⟩ := tr_succ (t' := x.1) (s' := x.2) h
  have : k < items.length := by
    rcases Nat.lt_or_ge k items.length with h1 | h1
    · exact h1
    · rw [List.getElem?_eq_none h1] at h2; cases h2
  exact at_of_lt (by rw [← hp.len]; exact this)
theorem tr_frame (hp : PlanOk P ops l items) {k : Nat} {tk : T} {sk : St} (hk : trC P G callF ops items t0 s0 k = some (tk, sk)) {x : Nat} : ∀ (n : Nat) {tm : T} {sm : St},
    trC P G callF ops items t0 s0 (k + n) = some (tm, sm) → (∀ (j : Nat) (p : Plat), k ≤ j → j < k + n → l[j]? = some p → p.dst ≠ some x) → getT (pathOf x) tm = getT (pathOf x) tk ∧ tm.n = tk.n
  | 0, tm, sm, h, _ => by
    rw [Nat.add_zero, hk] at h; cases h; exact ⟨rfl, rfl⟩
  | n + 1, tm, sm, h, hx => by
    obtain ⟨p, hlp⟩ := tr_bound hp (k := k + n) h
    obtain ⟨t, s, it, h1, h2, h3, h4⟩ := tr_item hp hlp (k := k + n) h
    obtain ⟨e1, e2⟩ := tr_frame hp hk n h1 fun j p hj hj2 hp => hx j p hj (by omega) hp
    obtain ⟨f1, f2⟩ := h4.frame rfl
    refine ⟨?_, by rw [f1, e2]⟩
    rw [f2 x (.inl (by rw [h3]; exact hx (k + n) p (by omega) (by omega) hlp)), e1]
theorem tr_frame' (hp : PlanOk P ops l items) {k m : Nat} {tk tm : T} {sk sm : St} (hk : trC P G callF ops items t0 s0 k = some (tk, sk)) (hm : trC P G callF ops items t0 s0 m = some (tm, sm)) (hle : k ≤ m) {x : Nat}
    (hx : ∀ (j : Nat) (p : Plat), k ≤ j → j < m → l[j]? = some p → p.dst ≠ some x) : getT (pathOf x) tm = getT (pathOf x) tk := by
  obtain ⟨d, rfl⟩ := Nat.exists_eq_add_of_le hle
  exact (tr_frame hp hk d hm hx).1
theorem tr_n (hp : PlanOk P ops l items) : ∀ {k : Nat} {tk : T} {sk : St}, trC P G callF ops items t0 s0 k = some (tk, sk) → tk.n = t0.n
  | 0, tk, sk, h => by simp only [trC, Option.some.injEq, Prod.mk.injEq] at h; rw [h.1]
  | k + 1, tk, sk, h => by
    obtain ⟨p, hlp⟩ := tr_bound hp h
    obtain ⟨t, s, it, h1, h2, h3, h4⟩ := tr_item hp hlp h
    rw [(h4.frame rfl).1, tr_n hp h1]
theorem tr_far (hp : PlanOk P ops l items) {x : Nat} (hx : t0.n ≤ x) : ∀ {k : Nat} {tk : T} {sk : St}, trC P G callF ops items t0 s0 k = some (tk, sk) → getT (pathOf x) tk = getT (pathOf x) t0
  | 0, tk, sk, h => by simp only [trC, Option.some.injEq, Prod.mk.injEq] at h; rw [h.1]
  | k + 1, tk, sk, h => by
    obtain ⟨p, hlp⟩ := tr_bound hp h
    obtain ⟨t, s, it, h1, h2, h3, h4⟩ := tr_item hp hlp h
    rw [(h4.frame rfl).2 x (.inr (by rw [tr_n hp h1]; exact hx)), tr_far hp hx h1]
theorem PlanOk.writer (hp : PlanOk P ops l items) {k j : Nat} {p q : Plat} (hk : l[k]? = some p) (hj : l[j]? = some q) {x : Nat} (h1 : p.dst = some x) (h2 : q.dst = some x) : k = j := by
  have := hp.pairs k j p q hk hj
  simp only [pairOk, h1, h2, Bool.and_eq_true, Bool.or_eq_true] at this
  rcases this.2 with h | h
  · exact hp.uniq k j p q hk hj (Nat.eq_of_beq_eq_true h)
  · simp at h
theorem PlanOk.look (hp : PlanOk P ops l items) {k j : Nat} {p q : Plat} (hk : l[k]? = some p) (hj : l[j]? = some q) {x : Nat} (h1 : q.dst = some x) (h2 : x ∈ p.looks) :
    p.bef.testBit q.i = true ∨ (q.bef.testBit p.i = true ∨ k = j) := by
  have := hp.pairs k j p q hk hj
  simp only [pairOk, h1, Bool.and_eq_true, Bool.or_eq_true, hasN_iff.2 h2, Bool.not_true, Bool.false_eq_true, false_or] at this
  rcases this.1 with h | ⟨_, h | h⟩
  · exact .inl h
  · exact .inr (.inl h)
  · exact .inr (.inr (hp.uniq k j p q hk hj (Nat.eq_of_beq_eq_true h)))
def Closed (ops : Array Oper) (ls : Array Bool) : Prop := ∀ (i : Nat) (o : Oper), ls.getD i false = true → ops[i]? = some o → ∀ e ∈ edgesOf o, ls.getD e false = true
theorem PlanOk.anc (hp : PlanOk P ops l items) {ls : Array Bool} (hc : Closed ops ls) : ∀ (k : Nat) (p : Plat), l[k]? = some p → (∀ e ∈ edgesOf p.o, ls.getD e false = true) → ∀ j, p.bef.testBit j = true → ls.getD j false = true := by
  intro k
  induction k using Nat.strongRecOn with
  | _ k ih =>
    intro p hk he j hj
    obtain ⟨h1, _, _, _, h5⟩ := hp.plat k p hk
    rw [h5, befs_bit h1] at hj
    obtain ⟨e, hem, h | ⟨hlt, h⟩⟩ := hj
    · rw [← h]; exact he e hem
    · have hb : p.bef.testBit e = true := by rw [h5, befs_bit h1]; exact ⟨e, hem, .inl rfl⟩
      obtain ⟨k', q, hlt', hq, hqi⟩ := hp.ord k p hk e hb
      obtain ⟨g1, _, _, _, g5⟩ := hp.plat k' q hq
      rw [← hqi] at h
      rw [← g5] at h
      exact ih k' hlt' q hq (hc q.i q.o (by rw [hqi]; exact he e hem) g1) j h
structure Inv (P : Program) (G : Glob) (callF : CF) (ops : Array Oper) (items : List Item) (l : List Plat) (t0 : T) (s0 : St) (E0 : Env) (w0 : World)
    (m : Nat) (ls : Array Bool) (a : Act) (w : World) (E : Env) (tm : T) (sm : St) (tv : T) : Prop where
  size : ls.size = ops.size
  at_ : trC P G callF ops items t0 s0 m = some (tm, sm)
  done : ∀ (k : Nat) (p : Plat), k < m → l[k]? = some p → p.kd.isEff = true → ls.getD p.i false = true
  lim : ∀ (k : Nat) (p : Plat), l[k]? = some p → ls.getD p.i false = true → k < m
  cl : Closed ops ls
  step : Step E0 s0 w0 E sm w
  glob : GlobOk E G w
  tr : TR E tv a
  n : tv.n = t0.n
  ds : tv.ds = tm.ds
  vis1 : ∀ (k : Nat) (p : Plat) (x : Nat), l[k]? = some p → ls.getD p.i false = true → p.dst = some x → getT (pathOf x) tv = getT (pathOf x) tm
  vis0 : ∀ (x : Nat), (∀ (k : Nat) (p : Plat), l[k]? = some p → ls.getD p.i false = true → p.dst ≠ some x) → getT (pathOf x) tv = getT (pathOf x) t0
  mono : ∀ (k k' : Nat) (tk tk' : T) (sk sk' : St), k ≤ k' → k' ≤ m → trC P G callF ops items t0 s0 k = some (tk, sk) → trC P G callF ops items t0 s0 k' = some (tk', sk') → sk.next ≤ sk'.next
  pval : ∀ (k : Nat) (p : Plat) (tk : T) (sk : St), k < m → l[k]? = some p → ls.getD p.i false = false → (p.kd = .pure ∨ p.kd = .read) → trC P G callF ops items t0 s0 k = some (tk, sk) →
    guardC ops p.o.guard tk = some true → ∃ v, opC P G callF p.o tk sm = .val v sm ∧ ∀ d, p.dst = some d → getT (pathOf d) (tk.put d (pathOf d) v) = getT (pathOf d) tm
  pnew : ∀ (k : Nat) (p : Plat) (tk : T) (sk : St), k < m → l[k]? = some p → ls.getD p.i false = false → p.kd = .new → trC P G callF ops items t0 s0 k = some (tk, sk) →
    guardC ops p.o.guard tk = some true → E.loc sk.next = none ∧ s0.next ≤ sk.next ∧ ∃ v ty vals, opC P G callF p.o tk sk = .val v (pushRow sk ty vals) ∧ sm.get sk.next = some (newRow sk ty vals) ∧
      ∀ d, p.dst = some d → getT (pathOf d) (tk.put d (pathOf d) v) = getT (pathOf d) tm
section
variable {E0 E : Env} {w0 w : World} {m : Nat} {ls : Array Bool} {a : Act} {tm tv : T} {sm : St}
theorem Inv.agree (hp : PlanOk P ops l items) (h : Inv P G callF ops items l t0 s0 E0 w0 m ls a w E tm sm tv) {k : Nat} {p : Plat} (hle : k ≤ m) (hk : l[k]? = some p) (hu : ls.getD p.i false = false)
    (ha : ∀ j, p.bef.testBit j = true → ls.getD j false = true) {tk : T} {sk : St} (htk : trC P G callF ops items t0 s0 k = some (tk, sk)) : ∀ x ∈ p.looks, getT (pathOf x) tv = getT (pathOf x) tk := by
  intro x hx
  have h0 : trC P G callF ops items t0 s0 0 = some (t0, s0) := rfl
  by_cases hq : ∃ (j : Nat) (q : Plat), l[j]? = some q ∧ q.dst = some x
  · obtain ⟨j, q, hj, hqx⟩ := hq
    have none0 : ls.getD q.i false = false → k ≤ j → getT (pathOf x) tv = getT (pathOf x) tk := fun hql hkj => by
      have e1 := h.vis0 x fun k' p' hk' hl' hd' => by
        have := hp.writer hk' hj hd' hqx
        subst this
        rw [hj] at hk'; cases hk'
        rw [hql] at hl'; cases hl'
      have e2 := tr_frame' hp h0 htk (Nat.zero_le k) (x := x) fun j' p' _ hj' hl' hd' => by
        have := hp.writer hl' hj hd' hqx
        omega
      rw [e1, e2]
    rcases hp.look hk hj hqx hx with h1 | h1 | h1
    · have hlq := ha q.i h1
      have e1 := h.vis1 j q x hj hlq hqx
      obtain ⟨j', q', hj', hq', hqi⟩ := hp.ord k p hk q.i h1
      have := hp.uniq j' j q' q hq' hj hqi
      subst this
      have e2 := tr_frame' hp htk h.at_ hle (x := x) fun j2 p2 hj2 _ hl2 hd2 => by
        have := hp.writer hl2 hj hd2 hqx
        omega
      rw [e1, e2]
    · refine none0 ?_ ?_
      · cases hql : ls.getD q.i false with
        | false => rfl
        | true =>
          have := hp.anc h.cl j q hj (h.cl q.i q.o hql (hp.plat j q hj).1) p.i h1
          rw [hu] at this; cases this
      · obtain ⟨k', p', hlt, hp', hpi⟩ := hp.ord j q hj p.i h1
        have := hp.uniq k' k p' p hp' hk hpi
        omega
    · subst h1
      rw [hk] at hj; cases hj
      exact none0 hu (Nat.le_refl _)
  · have e1 := h.vis0 x fun k' p' hk' _ hd' => hq ⟨k', p', hk', hd'⟩
    have e2 := tr_frame' hp h0 htk (Nat.zero_le k) (x := x) fun j' p' _ _ hl' hd' => hq ⟨j', p', hl', hd'⟩
    rw [e1, e2]
theorem looks_ev {p : Plat} (hl : p.looks = p.o.looksAt ops) {t t' : T} (h : ∀ x ∈ p.looks, getT (pathOf x) t = getT (pathOf x) t') : ∀ y ∈ p.o.op.operands, evC G y t = evC G y t' := by
  intro y hy
  cases y with
  | tmp i =>
    refine h i ?_
    rw [hl]
    exact List.mem_append_left _ (List.mem_filterMap.2 ⟨.tmp i, by simpa using hy, rfl⟩)
  | const v => simp only [evC]; cases ofV v <;> rfl
  | global g => simp only [evC]; cases G.at_ g <;> rfl
  | func f => rfl
theorem looks_guard {p : Plat} (hl : p.looks = p.o.looksAt ops) {t t' : T} (h : ∀ x ∈ p.looks, getT (pathOf x) t = getT (pathOf x) t') : guardC ops p.o.guard t = guardC ops p.o.guard t' := by
  cases hg : p.o.guard with
  | none => rfl
  | some g =>
    obtain ⟨j, w⟩ := g
    simp only [guardC]
    cases hd : (ops[j]?).bind (·.dst) with
    | none => rfl
    | some d =>
      have : d ∈ p.looks := by
        rw [hl]
        refine List.mem_append_right _ ?_
        rw [hg]
        simp [hd]
      simp only [h d this]
theorem kd_cases (p : Plat) (h : p.kd.isEff = false) : (p.kd = .pure ∨ p.kd = .read) ∨ p.kd = .new := by
  cases hk : p.kd <;> simp_all [Kd.isEff]
theorem Ext.refl (s : St) : Ext s s := fun _ _ h => h
theorem kept {p : Plat} (hkd : p.kd = kdOf P p.o) (hk : p.kd = .pure ∨ p.kd = .read) {t : T} {s s1 : St} {v : AV} (e : opC P G callF p.o t s = .val v s1) :
    s1 = s ∧ ∀ s', Ext s s' → opC P G callF p.o t s' = .val v s' := by
  rcases hk with hk | hk
  · obtain ⟨h1, h2⟩ := (opC_free (P := P) (G := G) (callF := callF) (o := p.o) (by rw [← hkd]; exact hk)).val e
    exact ⟨h1, fun s' _ => h2 s'⟩
  · exact opC_read (by rw [← hkd]; exact hk) e
theorem Inv.advance (hp : PlanOk P ops l items) (h : Inv P G callF ops items l t0 s0 E0 w0 m ls a w E tm sm tv) {p : Plat} (hm : l[m]? = some p) (hne : p.kd.isEff = false) {tm' : T} {sm' : St}
    (htr : trC P G callF ops items t0 s0 (m + 1) = some (tm', sm')) : Inv P G callF ops items l t0 s0 E0 w0 (m + 1) ls a w E tm' sm' tv := by
  obtain ⟨t, s, it, h1, h2, h3, h4⟩ := tr_item hp hm htr
  rw [h.at_] at h1; cases h1
  obtain ⟨_, hkd, _, _, _⟩ := hp.plat m p hm
  have hrel := h.step.rel
  -- what may have come of it
  have hst : Step E sm w E sm' w ∧ Ext sm sm' ∧ tm'.ds = tm.ds ∧ (guardC ops p.o.guard tm = some true → ∃ v, opC P G callF p.o tm sm = .val v sm' ∧ tm' = putC p.dst v tm) := by
    subst h3
    cases h4 with
    | unwanted hg => exact ⟨.refl hrel, .refl _, putC_ds, fun e => by rw [hg] at e; cases e⟩
    | plain v s' hg hk e =>
      refine ⟨?_, ?_, putC_ds, fun _ => ⟨v, e, rfl⟩⟩
      · rcases kd_cases it.p hne with hk | hk
        · rw [(kept hkd hk e).1]; exact .refl hrel
        · obtain ⟨mk, ety, vals, _, e2, _⟩ := opC_new (by rw [← hkd]; exact hk) e
          rw [e2]; exact Step.push hrel _ (hrel.wf.push_row ety vals)
      · rcases kd_cases it.p hne with hk | hk
        · rw [(kept hkd hk e).1]; exact .refl _
        · obtain ⟨mk, ety, vals, _, e2, _⟩ := opC_new (by rw [← hkd]; exact hk) e
          rw [e2]; exact Ext.push hrel.wf _
    | val v s' hg hk => rw [hne] at hk; cases hk
    | skip s' hg hk => rw [hne] at hk; cases hk
    | dfr f args s' hg hk => rw [hne] at hk; cases hk
  obtain ⟨g1, g2, g3, g4⟩ := hst
  have hframe : ∀ x, p.dst ≠ some x → getT (pathOf x) tm' = getT (pathOf x) tm := fun x hx => (h4.frame rfl).2 x (.inl (by rw [h3]; exact hx))
  refine ⟨h.size, htr, ?_, ?_, h.cl, h.step.trans g1, h.glob, h.tr, h.n, by rw [h.ds, g3], ?_, h.vis0, ?_, ?_, ?_⟩
  · intro k q hk hl he
    rcases Nat.lt_or_ge k m with h5 | h5
    · exact h.done k q h5 hl he
    · have : k = m := by omega
      subst this; rw [hm] at hl; cases hl; rw [hne] at he; cases he
  · intro k q hl hq
    exact Nat.lt_succ_of_lt (h.lim k q hl hq)
  · intro k q x hl hq hd
    rw [h.vis1 k q x hl hq hd, hframe x fun e => ?_]
    have := hp.writer hl hm hd e
    have := h.lim k q hl hq
    omega
  · intro k k' tk tk' sk sk' hle hle' e1 e2
    rcases Nat.lt_or_ge k' (m + 1) with h5 | h5
    · exact h.mono k k' tk tk' sk sk' hle (by omega) e1 e2
    · have : k' = m + 1 := by omega
      subst this
      rw [htr] at e2; cases e2
      rcases Nat.lt_or_ge k (m + 1) with h6 | h6
      · exact Nat.le_trans (h.mono k m tk tm sk sm (by omega) (Nat.le_refl _) e1 h.at_) g1.next
      · have : k = m + 1 := by omega
        subst this; rw [htr] at e1; cases e1; exact Nat.le_refl _
  · intro k q tk sk hk hl hu hkq e1 hg
    rcases Nat.lt_or_ge k m with h5 | h5
    · obtain ⟨v, e2, e3⟩ := h.pval k q tk sk h5 hl hu hkq e1 hg
      refine ⟨v, (kept (hp.plat k q hl).2.1 hkq e2).2 sm' g2, fun d hd => ?_⟩
      rw [e3 d hd, hframe d fun e => ?_]
      have := hp.writer hl hm hd e
      omega
    · have : k = m := by omega
      subst this
      rw [hm] at hl; cases hl
      rw [h.at_] at e1; cases e1
      obtain ⟨v, e2, e3⟩ := g4 hg
      have e4 := (kept hkd hkq e2).1
      refine ⟨v, by rw [e4] at e2 ⊢; exact e2, fun d hd => ?_⟩
      rw [e3, hd]; rfl
  · intro k q tk sk hk hl hu hkq e1 hg
    rcases Nat.lt_or_ge k m with h5 | h5
    · obtain ⟨e2, e3, v, ety, vals, e4, e5, e6⟩ := h.pnew k q tk sk h5 hl hu hkq e1 hg
      refine ⟨e2, e3, v, ety, vals, e4, g2 _ _ e5, fun d hd => ?_⟩
      rw [e6 d hd, hframe d fun e => ?_]
      have := hp.writer hl hm hd e
      omega
    · have : k = m := by omega
      subst this
      rw [hm] at hl; cases hl
      rw [h.at_] at e1; cases e1
      obtain ⟨v, e2, e3⟩ := g4 hg
      obtain ⟨mk, ety, vals, _, e4, _⟩ := opC_new (by rw [← hkd]; exact hkq) e2
      subst e4
      refine ⟨hrel.loc_fresh, h.step.next, v, ety, vals, e2, ?_, fun d hd => by rw [e3, hd]; rfl⟩
      unfold pushRow; exact get_push_new
theorem Inv.advTo (hp : PlanOk P ops l items) : ∀ (n : Nat) {m : Nat} {tm : T} {sm : St}, Inv P G callF ops items l t0 s0 E0 w0 m ls a w E tm sm tv →
    (∀ (j : Nat) (q : Plat), m ≤ j → j < m + n → l[j]? = some q → q.kd.isEff = false) → ∀ {tk : T} {sk : St}, trC P G callF ops items t0 s0 (m + n) = some (tk, sk) → Inv P G callF ops items l t0 s0 E0 w0 (m + n) ls a w E tk sk tv
  | 0, m, tm, sm, h, _, tk, sk, e => by
    rw [Nat.add_zero, h.at_] at e; cases e; exact h
  | n + 1, m, tm, sm, h, hn, tk, sk, e => by
    obtain ⟨t, s, it, e1, _⟩ := tr_succ (k := m + n) e
    have h1 := Inv.advTo hp n h (fun j q hj hj2 hq => hn j q hj (by omega) hq) e1
    obtain ⟨p, hl⟩ := tr_bound hp (k := m + n) e
    exact h1.advance hp hl (hn (m + n) p (by omega) (by omega) hl) e
end
end
end Go.Am
end
section
namespace Go.Am
theorem Step.late {E0 E : Env} {s0 s : St} {w0 w : World} (h : Step E0 s0 w0 E s w) {r : Nat} {o : Row} (hr : s.get r = some (.row o)) (hn : E.loc r = none) (h0 : s0.next ≤ r) {vs : List Value} (hv : VRL E o.vals vs)
    (c : Array Value) (hc : ∀ (i : Nat) (v : Value), vs[i]? = some v → c[i]? = some v) (hl : o.vals.length ≤ c.size) :
    E.le (E.add r w.heap.size 0 c.size) ∧ Step E0 s0 w0 (E.add r w.heap.size 0 c.size) s (w.alloc (.cells c o.ty)) := by
  obtain ⟨hle, hrel⟩ := h.rel.map_new hr hn hv c hc hl
  refine ⟨hle, h.le.trans hle, fun q hq => by rw [Env.add_ne (by omega)]; exact h.old q hq, ?_, hrel, h.un, h.next, fun b hb hno hno2 => ?_, h.os, h.tape, h.output, ?_, h.owns, h.hids, h.zn⟩
  · intro q b base e
    rcases Env.add_loc e with ⟨_, h3⟩ | ⟨_, h3⟩
    · cases h3; exact .inl h.size
    · exact h.new q b base h3
  · rw [heap_alloc_old w _ b (Nat.lt_of_lt_of_le hb h.size)]; exact h.fr b hb hno hno2
  · have := h.size
    simp; omega
theorem newRow_inj {s : St} {ta tb : TypeId} {a b : List AV} (h : pushRow s ta a = pushRow s tb b) : a = b ∧ ta = tb := by
  have := congrArg (fun x => x.get s.next) h
  unfold pushRow at this
  simp only [get_push_new] at this
  simp only [newRow, Option.some.injEq, AObj.row.injEq, Row.mk.injEq] at this
  exact ⟨this.1, this.2.2.2.2.2.2.2⟩
theorem set_get {ls : Array Bool} {i j : Nat} (h : i < ls.size) : (ls.setIfInBounds i true).getD j false = if i = j then true else ls.getD j false := by
  by_cases e : i = j
  · subst e; simp [h]
  · rw [if_neg e]; exact getD_set_ne false e
theorem maskT_n : ∀ {fl : List Nat} {t : T}, (maskT fl t).n = t.n
  | [], _ => rfl
  | d :: l, t => by simp only [maskT]; rw [maskT_n, put_n]
theorem maskT_ds : ∀ {fl : List Nat} {t : T}, (maskT fl t).ds = t.ds
  | [], _ => rfl
  | d :: l, t => by simp only [maskT]; rw [maskT_ds, put_ds]
theorem maskT_get {x : Nat} : ∀ {fl : List Nat} {t : T}, getT (pathOf x) (maskT fl t) = .undef ∨ (getT (pathOf x) (maskT fl t) = getT (pathOf x) t ∧ (x ∈ fl → t.n ≤ x))
  | [], t => .inr ⟨rfl, by simp⟩
  | d :: l, t => by
    simp only [maskT]
    rcases maskT_get (x := x) (fl := l) (t := t.put d (pathOf d) .undef) with h | ⟨h1, h2⟩
    · exact .inl h
    · by_cases e : d = x
      · subst e
        rw [h1, put_get_same]
        by_cases hn : d < t.n
        · rw [if_pos hn]; exact .inl rfl
        · rw [if_neg hn]; exact .inr ⟨rfl, fun _ => by omega⟩
      · rw [h1, put_get_ne e]
        rw [put_n] at h2
        refine .inr ⟨rfl, fun hm => ?_⟩
        rcases List.mem_cons.1 hm with h3 | h3
        · exact absurd h3.symm e
        · exact h2 h3
section
variable {P : Program} {G : Glob} {callF : CF} {ops : Array Oper} {Q : Exit → Act → World → Prop} {items : List Item} {l : List Plat} {t0 : T} {s0 : St}
variable {E0 E : Env} {w0 w : World} {m : Nat} {ls : Array Bool} {a : Act} {tm tv : T} {sm : St}
theorem slot_late (hp : PlanOk P ops l items) (h : Inv P G callF ops items l t0 s0 E0 w0 m ls a w E tm sm tv) {k : Nat} {p : Plat} (hk : l[k]? = some p) (hu : ls.getD p.i false = false) {tk : T} {sk : St}
    (htk : trC P G callF ops items t0 s0 k = some (tk, sk)) {v : AV} {x : Nat} (hd : p.dst = some x) (hv : getT (pathOf x) (tk.put x (pathOf x) v) = getT (pathOf x) tm) :
    getT (pathOf x) (tv.put x (pathOf x) v) = getT (pathOf x) tm := by
  rw [put_get_same] at hv ⊢
  rw [tr_n hp htk] at hv
  rw [h.n]
  by_cases hn : x < t0.n
  · rw [if_pos hn] at hv ⊢; exact hv
  · rw [if_neg hn] at hv ⊢
    rw [← hv, tr_far hp (by omega) htk]
    refine h.vis0 x fun k' p' hk' hl' hd' => ?_
    have := hp.writer hk' hk hd' hd
    subst this
    rw [hk] at hk'; cases hk'
    rw [hu] at hl'; cases hl'
theorem Inv.listed (hp : PlanOk P ops l items) (h : Inv P G callF ops items l t0 s0 E0 w0 m ls a w E tm sm tv) {k : Nat} {p : Plat} (hlt : k < m) (hk : l[k]? = some p) (hu : ls.getD p.i false = false)
    (he : ∀ e ∈ edgesOf p.o, ls.getD e false = true) {tk : T} {sk : St} (htk : trC P G callF ops items t0 s0 k = some (tk, sk)) {E' : Env} {a' : Act} {w' : World} {v : AV}
    (hs : Step E0 s0 w0 E' sm w') (hG : GlobOk E' G w') (ht : TR E' (putC p.dst v tv) a') (hv : ∀ d, p.dst = some d → getT (pathOf d) (tk.put d (pathOf d) v) = getT (pathOf d) tm)
    (hloc : ∀ (k' : Nat) (q : Plat) (tk' : T) (sk' : St), k' < m → k' ≠ k → l[k']? = some q → ls.getD q.i false = false → q.kd = .new → trC P G callF ops items t0 s0 k' = some (tk', sk') →
      guardC ops q.o.guard tk' = some true → E'.loc sk'.next = none) :
    Inv P G callF ops items l t0 s0 E0 w0 m (ls.setIfInBounds p.i true) a' w' E' tm sm (putC p.dst v tv) := by
  have hpi : p.i < ls.size := by
    have := (hp.plat k p hk).1
    rw [h.size]
    exact (Array.getElem?_eq_some_iff.1 this).1
  have hls : ∀ j, ls.getD j false = true → (ls.setIfInBounds p.i true).getD j false = true := fun j hj => by rw [set_get hpi]; split <;> first | rfl | exact hj
  have hun : ∀ (k' : Nat) (q : Plat), l[k']? = some q → (ls.setIfInBounds p.i true).getD q.i false = false → ls.getD q.i false = false ∧ k' ≠ k := fun k' q hq hl => by
    rw [set_get hpi] at hl
    split at hl
    · cases hl
    · rename_i hne
      refine ⟨hl, fun e => ?_⟩
      subst e; rw [hk] at hq; cases hq; exact hne rfl
  have hin : ∀ (k' : Nat) (q : Plat), l[k']? = some q → (ls.setIfInBounds p.i true).getD q.i false = true → k' = k ∨ ls.getD q.i false = true := fun k' q hq hl => by
    rw [set_get hpi] at hl
    split at hl
    · rename_i e; exact .inl (hp.uniq k' k q p hq hk e.symm)
    · exact .inr hl
  refine ⟨by simp [h.size], h.at_, fun k' q h1 h2 h3 => hls _ (h.done k' q h1 h2 h3), ?_, ?_, hs, hG, ht, by rw [putC_n, h.n], by rw [putC_ds, h.ds], ?_, ?_, h.mono, ?_, ?_⟩
  · intro k' q hq hl
    rcases hin k' q hq hl with h1 | h1
    · omega
    · exact h.lim k' q hq h1
  · intro i o hi ho e hem
    rw [set_get hpi] at hi
    split at hi
    · rename_i e1
      subst e1
      rw [(hp.plat k p hk).1] at ho
      cases ho
      exact hls _ (he e hem)
    · exact hls _ (h.cl i o hi ho e hem)
  · intro k' q x hq hl hd
    rcases hin k' q hq hl with h1 | h1
    · subst h1
      rw [hk] at hq; cases hq
      have := slot_late hp h hk hu htk hd (hv x hd)
      rw [hd]; exact this
    · rw [putC_get_ne fun e => ?_]
      · exact h.vis1 k' q x hq h1 hd
      · have := hp.writer hq hk hd e
        subst this
        rw [hk] at hq; cases hq
        rw [hu] at h1; cases h1
  · intro x hx
    rw [putC_get_ne fun e => hx k p hk (by rw [set_get hpi, if_pos rfl]) e]
    exact h.vis0 x fun k' q hq hl => hx k' q hq (hls _ hl)
  · intro k' q tk' sk' h1 h2 h3 h4 h5 h6
    exact h.pval k' q tk' sk' h1 h2 (hun k' q h2 h3).1 h4 h5 h6
  · intro k' q tk' sk' h1 h2 h3 h4 h5 h6
    obtain ⟨g1, g2⟩ := hun k' q h2 h3
    obtain ⟨_, f2⟩ := h.pnew k' q tk' sk' h1 h2 g1 h4 h5 h6
    exact ⟨hloc k' q tk' sk' h1 g2 h2 g1 h4 h5 h6, f2⟩
theorem edges_anc (hp : PlanOk P ops l items) (h : Inv P G callF ops items l t0 s0 E0 w0 m ls a w E tm sm tv) {k : Nat} {p : Plat} (hk : l[k]? = some p) (he : ∀ e ∈ edgesOf p.o, ls.getD e false = true) :
    ∀ j, p.bef.testBit j = true → ls.getD j false = true := hp.anc h.cl k p hk he
theorem next_lt (hp : PlanOk P ops l items) (h : Inv P G callF ops items l t0 s0 E0 w0 m ls a w E tm sm tv) {k k' : Nat} {q : Plat} {tk tk' : T} {sk sk' : St} (hlt : k < k') (hle : k' ≤ m) (hq : l[k]? = some q)
    (hkd : q.kd = .new) (h1 : trC P G callF ops items t0 s0 k = some (tk, sk)) (hg : guardC ops q.o.guard tk = some true) (h2 : trC P G callF ops items t0 s0 k' = some (tk', sk')) : sk.next < sk'.next := by
  obtain ⟨t1, s1, e1⟩ := tr_le h2 (show k + 1 ≤ k' by omega)
  obtain ⟨t, s, it, g1, g2, g3, g4⟩ := tr_item hp hq e1
  rw [h1] at g1; cases g1
  have hn : sk.next + 1 = s1.next := by
    cases g4 with
    | unwanted hg' => rw [g3, hg] at hg'; cases hg'
    | plain v s' _ hk e =>
      rw [g3] at e
      obtain ⟨mk, ety, vals, _, e2, _⟩ := opC_new (by rw [← (hp.plat k q hq).2.1]; exact hkd) e
      rw [e2]; rfl
    | val v s' _ hk => rw [g3, hkd] at hk; cases hk
    | skip s' _ hk => rw [g3, hkd] at hk; cases hk
    | dfr f args s' _ hk => rw [g3, hkd] at hk; cases hk
  have := h.mono (k + 1) k' t1 tk' s1 sk' (by omega) hle e1 h2
  omega
theorem Inv.pend (hc : CFok P G callF) (hp : PlanOk P ops l items) (h : Inv P G callF ops items l t0 s0 E0 w0 m ls a w E tm sm tv) {k : Nat} {p : Plat} (hlt : k < m) (hk : l[k]? = some p) (hu : ls.getD p.i false = false)
    (he : ∀ e ∈ edgesOf p.o, ls.getD e false = true) :
    wpOp P ops Q p.i (fun a' w' => ∃ E' tv', Inv P G callF ops items l t0 s0 E0 w0 m (ls.setIfInBounds p.i true) a' w' E' tm sm tv') a w := by
  obtain ⟨hop, hkd, hdst, hlooks, _⟩ := hp.plat k p hk
  have hne : p.kd.isEff = false := by
    cases hx : p.kd.isEff with
    | false => rfl
    | true => rw [h.done k p hlt hk hx] at hu; cases hu
  obtain ⟨t1, s1, e1⟩ := tr_le h.at_ (show k + 1 ≤ m by omega)
  obtain ⟨tk, sk, it, htk, g2, g3, g4⟩ := tr_item hp hk e1
  have hag := h.agree hp (Nat.le_of_lt hlt) hk hu (edges_anc hp h hk he) htk
  have hgd := looks_guard hlooks hag
  have hdep : ∀ s, opC P G callF p.o tv s = opC P G callF p.o tk s := fun s => opC_dep (hp.nosel _ _ hop) (looks_ev hlooks hag)
  have hslot : ∀ v, t1 = putC p.dst v tk → ∀ d, p.dst = some d → getT (pathOf d) (tk.put d (pathOf d) v) = getT (pathOf d) tm := fun v e d hd => by
    rw [tr_frame' hp e1 h.at_ (by omega) fun j q hj _ hq hqd => ?_, e, hd]; rfl
    have := hp.writer hq hk hqd hd
    omega
  have hlocs : ∀ (k' : Nat) (q : Plat) (tk' : T) (sk' : St), k' < m → k' ≠ k → l[k']? = some q → ls.getD q.i false = false → q.kd = .new → trC P G callF ops items t0 s0 k' = some (tk', sk') →
      guardC ops q.o.guard tk' = some true → E.loc sk'.next = none ∧ sk'.next < sm.next := fun k' q tk' sk' h1 _ h2 h3 h4 h5 h6 => by
    obtain ⟨f1, _, _, _, vals, _, f2, _⟩ := h.pnew k' q tk' sk' h1 h2 h3 h4 h5 h6
    exact ⟨f1, h.step.rel.wf.lt f2⟩
  subst g3
  cases g4 with
  | unwanted hg =>
    refine wpOp_unwanted hop (guard_ok h.tr (by rw [hgd]; exact hg)) ?_
    rw [← hdst]
    exact ⟨E, _, h.listed hp hlt hk hu he htk h.step h.glob (h.tr.putC _ (vr_undef E)) (hslot _ rfl) fun k' q tk' sk' h1 h2 h3 h4 h5 h6 h7 => (hlocs k' q tk' sk' h1 h2 h3 h4 h5 h6 h7).1⟩
  | plain v s' hg _ e =>
    have hwant := guard_ok h.tr (o := it.p.o) (b := true) (by rw [hgd]; exact hg)
    rcases kd_cases it.p hne with hkk | hkk
    · obtain ⟨v2, e2, e3⟩ := h.pval k it.p tk sk hlt hk hu hkk htk hg
      have hok := opC_ok (o := it.p.o) hc h.step.rel h.glob h.tr
      rw [hdep, e2] at hok
      refine wpOp_ok hop hwant hok fun v' E' w' hs hv => ?_
      rw [← hdst]
      refine ⟨E', _, h.listed hp hlt hk hu he htk (h.step.trans hs) (h.glob.step h.step.rel hs) ((h.tr.mono hs.le).putC _ hv) e3 fun k' q tk' sk' h1 h2 h3 h4 h5 h6 h7 => ?_⟩
      obtain ⟨f1, f2⟩ := hlocs k' q tk' sk' h1 h2 h3 h4 h5 h6 h7
      rw [hs.old _ f2]; exact f1
    · obtain ⟨f1, f2, v2, ety, vals, f3, f4, f5⟩ := h.pnew k it.p tk sk hlt hk hu hkk htk hg
      obtain ⟨mk, ety', vals', n1, n2, n3⟩ := opC_new (P := P) (G := G) (callF := callF) (o := it.p.o) (t := tv) (by rw [← hkd]; exact hkk) (by rw [hdep]; exact f3)
      obtain ⟨n4, n5⟩ := newRow_inj n2
      subst n4 n5
      obtain ⟨vs, c, x, r1, r2, r3, r4, r5⟩ := n3 E w a h.glob h.tr
      obtain ⟨hle, hs⟩ := h.step.late f4 f1 f2 r1 c r2 r3
      unfold wpOp
      simp only [hop, hwant, if_true]
      left
      unfold Oper.wp
      rw [r4, Oper.upon_value, ← hdst]
      have hv : VR (E.add sk.next w.heap.size 0 c.size) v2 x := by
        rw [n1]; exact r5 _ _ (Env.add_self _ _ _ _ _) (by simp [Env.add])
      refine ⟨_, _, h.listed hp hlt hk hu he htk hs (h.glob.grown hle fun b hb => by show (w.heap.push _)[b]? = _; rw [Array.getElem?_push, if_neg (by omega)]) ((h.tr.mono hle).putC _ hv) f5 fun k' q tk' sk' h1 h2 h3 h4 h5 h6 h7 => ?_⟩
      obtain ⟨i1, _⟩ := hlocs k' q tk' sk' h1 h2 h3 h4 h5 h6 h7
      rw [Env.add_ne]
      · exact i1
      · rcases Nat.lt_or_ge k' k with h8 | h8
        · have := next_lt hp h h8 (Nat.le_of_lt hlt) h3 h5 h6 h7 htk
          omega
        · have := next_lt hp h (show k < k' by omega) (Nat.le_of_lt h1) hk hkk htk hg h6
          omega
  | val v s' _ hk' => rw [hne] at hk'; cases hk'
  | skip s' _ hk' => rw [hne] at hk'; cases hk'
  | dfr f args s' _ hk' => rw [hne] at hk'; cases hk'
end
end Go.Am
end
