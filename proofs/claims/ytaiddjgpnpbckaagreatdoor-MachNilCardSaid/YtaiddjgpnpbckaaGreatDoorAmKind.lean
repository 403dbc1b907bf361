/- The kinds of operations: what needs no memory, what reads, what makes a row. -/
import Derived.Test.YtaiddjgpnpbckaaGreatDoorAmTop
import Derived.Test.YtaiddjgpnpbckaaGreatDoorAmPlan
set_option autoImplicit false
namespace Go.Am

mutual
theorem AV.same_eq : ∀ {a b : AV}, AV.same a b = true → a = b
  | .int k a, b, h => by
    cases b <;> simp [AV.same] at h
    rw [kindEq_eq h.1]; have := h.2; rw [eqI_eq] at this; simp at this; rw [this]
  | .bool a, b, h => by cases b <;> simp [AV.same] at h; rename_i b; cases a <;> cases b <;> simp_all
  | .str l, b, h => by cases b <;> simp [AV.same] at h; rw [eqNs_eq] at h; simp at h; rw [h]
  | .nilp, b, h => by cases b <;> simp [AV.same] at h; rfl
  | .ptr r a, b, h => by cases b <;> simp [AV.same] at h; rw [h.1, h.2]
  | .ptrL l a, b, h => by cases b <;> simp [AV.same] at h; rw [h.1, AV.sames_eq h.2]
  | .sl r a b c d, x, h => by
    cases x <;> simp [AV.same] at h
    rename_i r' a' b' c' d'
    obtain ⟨rfl, rfl, rfl, rfl, h5⟩ := h
    cases d <;> cases d' <;> simp_all
  | .lst l a b c, x, h => by
    cases x <;> simp [AV.same] at h
    rename_i l' a' b' c'
    obtain ⟨rfl, h2, h3, h4⟩ := h
    have := AV.sames_eq h4
    cases b <;> cases b' <;> cases c <;> cases c' <;> simp_all
  | .mp none, .mp none, _ => rfl
  | .mp (some a), .mp (some b), h => by simp [AV.same] at h; rw [h]
  | .mp none, .mp (some b), h => by simp [AV.same] at h
  | .mp (some a), .mp none, h => by simp [AV.same] at h
  | .fn f a b, x, h => by
    cases x <;> try (cases f <;> simp [AV.same] at h; done)
    rename_i g c d
    cases f <;> cases g <;> simp [AV.same] at h
    rw [h.1, AV.sames_eq h.2.1, AV.sames_eq h.2.2]
  | .hptr a, b, h => by cases b <;> simp [AV.same] at h; rw [h]
  | .nilfn, b, h => by cases b <;> simp [AV.same] at h; rfl
  | .ifc t a, b, h => by cases b <;> simp [AV.same] at h; rw [h.1, AV.same_eq h.2]
  | .nilifc, b, h => by cases b <;> simp [AV.same] at h; rfl
  | .agg a, b, h => by cases b <;> simp [AV.same] at h; rw [AV.sames_eq h]
  | .tup a, b, h => by cases b <;> simp [AV.same] at h; rw [AV.sames_eq h]
  | .undef, b, h => by cases b <;> simp [AV.same] at h
theorem AV.sames_eq : ∀ {a b : List AV}, AV.sames a b = true → a = b
  | [], [], _ => rfl
  | [], _ :: _, h => by simp [AV.sames] at h
  | _ :: _, [], h => by simp [AV.sames] at h
  | a :: l, b :: m, h => by simp [AV.sames] at h; rw [AV.same_eq h.1, AV.sames_eq h.2]
end

/-- the same outcome, in another state -/
def Nx.at (s' : St) : Nx → Nx
  | .val v _ => .val v s'
  | .skip _ => .skip s'
  | .dfr f a _ => .dfr f a s'
  | .panic v _ => .panic v s'
  | .fail => .fail

/-- it needs no memory -/
def Free (F : OpF) : Prop := ∀ t s s', F t s' = (F t s).at s'

theorem Free.val {F : OpF} (h : Free F) {t : T} {s s1 : St} {v : AV} (e : F t s = .val v s1) : s1 = s ∧ ∀ s', F t s' = .val v s' := by
  constructor
  · have := h t s s; rw [e] at this; simpa [Nx.at] using this
  · intro s'; rw [h t s s', e]; rfl

section
variable {P : Program} {G : Glob} {callF : CF} {o : Oper}

theorem at_cond (s' : St) (c : Bool) (a b : Nx) : Nx.at s' (bif c then a else b) = bif c then a.at s' else b.at s' := by cases c <;> rfl
theorem at_valO (s s' : St) (x : Option AV) : Nx.at s' (valO x s) = valO x s' := by cases x <;> rfl
theorem at_aggO (s s' : St) (x : Option (List AV)) : Nx.at s' (aggO x s) = aggO x s' := by cases x <;> rfl
theorem at_defO (s s' : St) (x : AV) : Nx.at s' (defO x s) = defO x s' := by cases x <;> rfl
theorem at_val (s s' : St) (x : AV) : Nx.at s' (.val x s) = .val x s' := rfl
theorem at_fail (s' : St) : Nx.at s' .fail = .fail := rfl


theorem valO_free (f : T → Option AV) : Free fun t s => valO (f t) s := fun _ _ _ => (at_valO _ _ _).symm
theorem failC_free : Free failC := fun _ _ _ => rfl
theorem plainC_free : Free (plainC P G o) := valO_free _
theorem pickC_free (c a b : T → AV) : Free (pickC c a b) := by intro t s s'; unfold pickC; ((try dsimp only) <;> (repeat' (first | rfl | (simp only [at_cond, at_valO, at_aggO, at_val, at_fail, at_defO]; done) | split)) <;> (first | done | (simp_all only [at_cond, at_valO, at_aggO, at_val, at_fail, at_defO]; done) | simp_all [at_cond, at_valO, at_aggO, at_val, at_fail, at_defO]))
theorem nilCheckC_free (x : T → AV) : Free (nilCheckC x) := by intro t s s'; unfold nilCheckC; ((try dsimp only) <;> (repeat' (first | rfl | (simp only [at_cond, at_valO, at_aggO, at_val, at_fail, at_defO]; done) | split)) <;> (first | done | (simp_all only [at_cond, at_valO, at_aggO, at_val, at_fail, at_defO]; done) | simp_all [at_cond, at_valO, at_aggO, at_val, at_fail, at_defO]))
theorem extractC_free (i : Nat) (x : T → AV) : Free (extractC i x) := by intro t s s'; unfold extractC; ((try dsimp only) <;> (repeat' (first | rfl | (simp only [at_cond, at_valO, at_aggO, at_val, at_fail, at_defO]; done) | split)) <;> (first | done | (simp_all only [at_cond, at_valO, at_aggO, at_val, at_fail, at_defO]; done) | simp_all [at_cond, at_valO, at_aggO, at_val, at_fail, at_defO]))
theorem fieldAddrC_free (ty f : Nat) (x : T → AV) : Free (fieldAddrC P ty f x) := by
  intro t s s'
  unfold fieldAddrC
  cases P.underlying ty with
  | none => rfl
  | some d => cases d with
    | struct fields => cases h : fields[f]? with
      | none => simp only [h]; rfl
      | some fd => simp only [h]; cases sizeT P fd.type with
        | none => rfl
        | some n => cases n with
          | zero => rfl
          | succ n => ((try dsimp only) <;> (repeat' (first | rfl | (simp only [at_cond, at_valO, at_aggO, at_val, at_fail, at_defO]; done) | split)) <;> (first | done | (simp_all only [at_cond, at_valO, at_aggO, at_val, at_fail, at_defO]; done) | simp_all [at_cond, at_valO, at_aggO, at_val, at_fail, at_defO]))
    | _ => rfl
theorem fieldC_free (ty f : Nat) (x : T → AV) : Free (fieldC P ty f x) := by
  intro t s s'
  unfold fieldC
  cases P.underlying ty with
  | none => rfl
  | some d => cases d with
    | struct fields => cases h : fields[f]? with
      | none => simp only [h]; rfl
      | some fd => simp only [h]; cases shapeT P fd.type with
        | none => rfl
        | some n => cases n <;> (simp only; ((try dsimp only) <;> (repeat' (first | rfl | (simp only [at_cond, at_valO, at_aggO, at_val, at_fail, at_defO]; done) | split)) <;> (first | done | (simp_all only [at_cond, at_valO, at_aggO, at_val, at_fail, at_defO]; done) | simp_all [at_cond, at_valO, at_aggO, at_val, at_fail, at_defO])))
    | _ => rfl
theorem indexAddrC_free (ty : Nat) (x i : T → AV) : Free (indexAddrC P ty x i) := by
  intro t s s'
  unfold indexAddrC
  cases P.underlying ty with
  | none => rfl
  | some d => cases d with
    | slice e => cases h : sizeT P e <;> (simp only [h]; ((try dsimp only) <;> (repeat' (first | rfl | (simp only [at_cond, at_valO, at_aggO, at_val, at_fail, at_defO]; done) | split)) <;> (first | done | (simp_all only [at_cond, at_valO, at_aggO, at_val, at_fail, at_defO]; done) | simp_all [at_cond, at_valO, at_aggO, at_val, at_fail, at_defO])))
    | array n e => cases h : sizeT P e <;> (simp only [h]; ((try dsimp only) <;> (repeat' (first | rfl | (simp only [at_cond, at_valO, at_aggO, at_val, at_fail, at_defO]; done) | split)) <;> (first | done | (simp_all only [at_cond, at_valO, at_aggO, at_val, at_fail, at_defO]; done) | simp_all [at_cond, at_valO, at_aggO, at_val, at_fail, at_defO])))
    | _ => rfl
theorem indexC_free (ty : Nat) (x i : T → AV) : Free (indexC P ty x i) := by
  intro t s s'
  unfold indexC
  cases P.underlying ty with
  | none => rfl
  | some d => cases d with
    | string => simp only; ((try dsimp only) <;> (repeat' (first | rfl | (simp only [at_cond, at_valO, at_aggO, at_val, at_fail, at_defO]; done) | split)) <;> (first | done | (simp_all only [at_cond, at_valO, at_aggO, at_val, at_fail, at_defO]; done) | simp_all [at_cond, at_valO, at_aggO, at_val, at_fail, at_defO]))
    | array n e => cases h : shapeT P e with
      | none => simp only [h]; rfl
      | some k => cases k with
        | none => cases h2 : sizeT P e <;> (simp only [h, h2]; ((try dsimp only) <;> (repeat' (first | rfl | (simp only [at_cond, at_valO, at_aggO, at_val, at_fail, at_defO]; done) | split)) <;> (first | done | (simp_all only [at_cond, at_valO, at_aggO, at_val, at_fail, at_defO]; done) | simp_all [at_cond, at_valO, at_aggO, at_val, at_fail, at_defO])))
        | some k => simp only [h]; ((try dsimp only) <;> (repeat' (first | rfl | (simp only [at_cond, at_valO, at_aggO, at_val, at_fail, at_defO]; done) | split)) <;> (first | done | (simp_all only [at_cond, at_valO, at_aggO, at_val, at_fail, at_defO]; done) | simp_all [at_cond, at_valO, at_aggO, at_val, at_fail, at_defO]))
    | _ => rfl
theorem makeInterfaceC_free (ty : Nat) (x : T → AV) : Free (makeInterfaceC P ty x) := by
  intro t s s'
  unfold makeInterfaceC
  cases P.underlying ty with
  | none => rfl
  | some d => cases d <;> rfl
theorem typeAssertC_free (x : T → AV) (ty : Nat) (ok : Bool) : Free (typeAssertC P x ty ok) := by
  intro t s s'
  unfold typeAssertC
  cases P.underlying ty with
  | none => rfl
  | some d => cases d <;> (first | rfl | (cases zeroT P ty <;> (simp only; ((try dsimp only) <;> (repeat' (first | rfl | (simp only [at_cond, at_valO, at_aggO, at_val, at_fail, at_defO]; done) | split)) <;> (first | done | (simp_all only [at_cond, at_valO, at_aggO, at_val, at_fail, at_defO]; done) | simp_all [at_cond, at_valO, at_aggO, at_val, at_fail, at_defO])))))
theorem nilEqC_free (d : Option TypeDesc) (neg : Bool) (x y : T → AV) {k : OpF} (hk : Free k) : Free (nilEqC d neg x y k) := by
  intro t s s'
  unfold nilEqC
  split
  · rfl
  · exact hk t s s'
theorem ptrEqC_free (ok neg : Bool) (x y : T → AV) {k : OpF} (hk : Free k) : Free (ptrEqC ok neg x y k) := by
  intro t s s'
  unfold ptrEqC
  split
  · ((try dsimp only) <;> (repeat' (first | rfl | (simp only [at_cond, at_valO, at_aggO, at_val, at_fail, at_defO]; done) | split)) <;> (first | done | (simp_all only [at_cond, at_valO, at_aggO, at_val, at_fail, at_defO]; done) | simp_all [at_cond, at_valO, at_aggO, at_val, at_fail, at_defO]))
  · exact hk t s s'
theorem structEqC_free (ty : Nat) (neg : Bool) (x y : T → AV) {k : OpF} (hk : Free k) : Free (structEqC P ty neg x y k) := by
  suffices key : ∀ F, structEqC P ty neg x y k = F → Free F from key _ rfl
  intro F hF
  unfold structEqC at hF
  split at hF
  · rename_i fields hf
    rcases Bool.eq_false_or_eq_true (!P.stoodInHeld ty && !P.eqGuardType P.depth ty) with hb | hb
    · rw [cond_of_true hb] at hF
      subst hF
      intro t s s'
      simp only
      split
      · split
        · rfl
        · exact hk t s s'
      · exact hk t s s'
    · rw [cond_of_false hb] at hF; subst hF; exact hk
  · subst hF; exact hk
theorem elseC_free (op : BinOp) (ty : Nat) (x y : T → AV) : Free (elseC P G o op ty x y) := by
  unfold elseC
  split
  · exact structEqC_free _ _ _ _ (ptrEqC_free _ _ _ _ (nilEqC_free _ _ _ _ plainC_free))
  · exact structEqC_free _ _ _ _ (ptrEqC_free _ _ _ _ (nilEqC_free _ _ _ _ plainC_free))
  · exact plainC_free
theorem binInt_free (f : IntKind → Int → Int → AV) (x y : T → AV) {k : OpF} (hk : Free k) : Free (binInt k f x y) := by
  intro t s s'
  unfold binInt
  split
  · ((try dsimp only) <;> (repeat' (first | rfl | (simp only [at_cond, at_valO, at_aggO, at_val, at_fail, at_defO]; done) | split)) <;> (first | done | (simp_all only [at_cond, at_valO, at_aggO, at_val, at_fail, at_defO]; done) | simp_all [at_cond, at_valO, at_aggO, at_val, at_fail, at_defO]))
  · exact hk t s s'
theorem binC_free (op : BinOp) (ty : Nat) (x y : T → AV) : Free (binC P G o op ty x y) := by
  intro t s s'
  unfold binC
  cases h : intOp op with
  | none => simp only; exact plainC_free t s s'
  | some f => cases h2 : strOp op with
    | none => exact binInt_free f x y (elseC_free op ty x y) t s s'
    | some g =>
      simp only
      split
      · ((try dsimp only) <;> (repeat' (first | rfl | (simp only [at_cond, at_valO, at_aggO, at_val, at_fail, at_defO]; done) | split)) <;> (first | done | (simp_all only [at_cond, at_valO, at_aggO, at_val, at_fail, at_defO]; done) | simp_all [at_cond, at_valO, at_aggO, at_val, at_fail, at_defO]))
      · exact binInt_free f x y (elseC_free op ty x y) t s s'
theorem buildC_free (ty : Nat) (ps : List (Nat × Operand)) : Free (buildC P G ty ps) := by
  intro t s s'
  unfold buildC
  cases zeroT P ty with
  | none => rfl
  | some z => cases z with
    | agg z => cases P.underlying ty with
      | none => rfl
      | some d => cases d with
        | struct fields => cases h : placesT P fields <;> (simp only [h]; ((try dsimp only) <;> (repeat' (first | rfl | (simp only [at_cond, at_valO, at_aggO, at_val, at_fail, at_defO]; done) | split)) <;> (first | done | (simp_all only [at_cond, at_valO, at_aggO, at_val, at_fail, at_defO]; done) | simp_all [at_cond, at_valO, at_aggO, at_val, at_fail, at_defO])))
        | array n e => cases h : sizeT P e <;> (simp only [h]; ((try dsimp only) <;> (repeat' (first | rfl | (simp only [at_cond, at_valO, at_aggO, at_val, at_fail, at_defO]; done) | split)) <;> (first | done | (simp_all only [at_cond, at_valO, at_aggO, at_val, at_fail, at_defO]; done) | simp_all [at_cond, at_valO, at_aggO, at_val, at_fail, at_defO])))
        | _ => rfl
    | _ => rfl
theorem sliceC_free (ty : Nat) (x : T → AV) (lo hi mx : Option (T → AV)) (h : ∀ n e, P.underlying ty ≠ some (.array n e)) : Free (sliceC P ty x lo hi mx) := by
  intro t s s'
  unfold sliceC
  cases hu : P.underlying ty with
  | none => rfl
  | some d => cases d with
    | array n e => exact absurd hu (h n e)
    | slice e => cases h : sizeT P e <;> (simp only [h]; ((try dsimp only) <;> (repeat' (first | rfl | (simp only [at_cond, at_valO, at_aggO, at_val, at_fail, at_defO]; done) | split)) <;> (first | done | (simp_all only [at_cond, at_valO, at_aggO, at_val, at_fail, at_defO]; done) | simp_all [at_cond, at_valO, at_aggO, at_val, at_fail, at_defO])))
    | string => simp only; ((try dsimp only) <;> (repeat' (first | rfl | (simp only [at_cond, at_valO, at_aggO, at_val, at_fail, at_defO]; done) | split)) <;> (first | done | (simp_all only [at_cond, at_valO, at_aggO, at_val, at_fail, at_defO]; done) | simp_all [at_cond, at_valO, at_aggO, at_val, at_fail, at_defO]))
    | _ => rfl
theorem convertC_free (src dst : Nat) (x : T → AV) (h : ∀ e, P.underlying src ≠ some (.slice e)) : Free (convertC P G o src dst x) := by
  suffices key : ∀ F, convertC P G o src dst x = F → Free F from key _ rfl
  intro F hF
  unfold convertC at hF
  split at hF
  · split at hF
    · subst hF; intro t s s'; ((try dsimp only) <;> (repeat' (first | rfl | (simp only [at_cond, at_valO, at_aggO, at_val, at_fail, at_defO]; done) | split)) <;> (first | done | (simp_all only [at_cond, at_valO, at_aggO, at_val, at_fail, at_defO]; done) | simp_all [at_cond, at_valO, at_aggO, at_val, at_fail, at_defO]))
    · subst hF; exact failC_free
  · rename_i hs _; exact absurd hs (h _)
  · subst hF; intro t s s'; ((try dsimp only) <;> (repeat' (first | rfl | (simp only [at_cond, at_valO, at_aggO, at_val, at_fail, at_defO]; done) | split)) <;> (first | done | (simp_all only [at_cond, at_valO, at_aggO, at_val, at_fail, at_defO]; done) | simp_all [at_cond, at_valO, at_aggO, at_val, at_fail, at_defO]))
  · subst hF; exact plainC_free
theorem convC_eq {src dst : Nat} {x : T → AV} (h1 : ∀ u, P.underlying src ≠ some (.pointer u)) (h2 : P.underlying src ≠ some .unsafePointer) : convC P G o src dst x = convertC P G o src dst x := by
  unfold convC
  split
  · rename_i h _; exact absurd h (h1 _)
  · rename_i h _; exact absurd h h2
  · rfl
theorem lenC_free (ty : Nat) (x : T → AV) (h : ∀ k e, P.underlying ty ≠ some (.map k e)) : Free (lenC P ty x) := by
  intro t s s'
  unfold lenC
  cases hu : P.underlying ty with
  | none => rfl
  | some d => cases d with
    | map k e => exact absurd hu (h k e)
    | slice e => simp only; ((try dsimp only) <;> (repeat' (first | rfl | (simp only [at_cond, at_valO, at_aggO, at_val, at_fail, at_defO]; done) | split)) <;> (first | done | (simp_all only [at_cond, at_valO, at_aggO, at_val, at_fail, at_defO]; done) | simp_all [at_cond, at_valO, at_aggO, at_val, at_fail, at_defO]))
    | string => simp only; ((try dsimp only) <;> (repeat' (first | rfl | (simp only [at_cond, at_valO, at_aggO, at_val, at_fail, at_defO]; done) | split)) <;> (first | done | (simp_all only [at_cond, at_valO, at_aggO, at_val, at_fail, at_defO]; done) | simp_all [at_cond, at_valO, at_aggO, at_val, at_fail, at_defO]))
    | _ => rfl
theorem capC_free (ty : Nat) (x : T → AV) : Free (capC P ty x) := by
  intro t s s'
  unfold capC
  cases hu : P.underlying ty with
  | none => rfl
  | some d => cases d with
    | slice e => simp only; ((try dsimp only) <;> (repeat' (first | rfl | (simp only [at_cond, at_valO, at_aggO, at_val, at_fail, at_defO]; done) | split)) <;> (first | done | (simp_all only [at_cond, at_valO, at_aggO, at_val, at_fail, at_defO]; done) | simp_all [at_cond, at_valO, at_aggO, at_val, at_fail, at_defO]))
    | _ => rfl

/-- An operation of the first kind needs no memory. -/
theorem opC_free (h : kdOf P o = .pure) : Free (opC P G callF o) := by
  suffices key : ∀ F, opC P G callF o = F → Free F from key _ rfl
  intro F hF
  unfold opC at hF
  split at hF <;> subst hF <;> rename_i ho <;> simp only [kdOf, ho] at h <;> try (cases h; done)
  all_goals first
    | exact fun _ _ _ => rfl
    | exact pickC_free _ _ _
    | exact buildC_free _ _
    | exact nilCheckC_free _
    | exact fieldAddrC_free _ _ _
    | exact fieldC_free _ _ _
    | exact indexAddrC_free _ _ _
    | exact indexC_free _ _ _
    | exact extractC_free _ _
    | exact makeInterfaceC_free _ _
    | exact typeAssertC_free _ _ _
    | exact binC_free _ _ _ _
    | exact plainC_free
    | skip
  · refine sliceC_free _ _ _ _ _ fun n e he => ?_
    rw [he] at h; cases h
  · rw [convC_eq (fun u he => by rw [he] at h; cases h) (fun he => by rw [he] at h; cases h)]
    refine convertC_free _ _ _ fun e he => ?_
    rw [he] at h; cases h
  · rename_i b args ts
    suffices key : ∀ F, builtinC P G o b args.toList ts.toList = F → Free F from key _ rfl
    intro F hF
    unfold builtinC at hF
    split at hF <;> subst hF <;> (try (simp only at h; cases h; done)) <;> first | exact plainC_free | exact failC_free | exact capC_free _ _ | skip
    refine lenC_free _ _ fun k e he => ?_
    rename_i hts
    simp only [hts, he] at h
    cases h

/-- What is there stays. -/
def Ext (s s' : St) : Prop := ∀ r x, s.get r = some x → s'.get r = some x

theorem Ext.push {s : St} (h : Wf s) (ob : AObj) : Ext s (s.push ob) := fun r x e => by rw [get_push_old (h.lt e)]; exact e
theorem Ext.trans {a b c : St} (h : Ext a b) (k : Ext b c) : Ext a c := fun r x e => k r x (h r x e)

theorem rowAt_ext {s s' : St} (h : Ext s s') {r : Nat} {o : Row} (e : rowAt s r = some o) : rowAt s' r = some o := by
  obtain ⟨e1, e2⟩ := rowAt_eq e
  unfold rowAt
  rw [h r _ e1]
  have : valid s' o = true := by
    unfold valid at e2 ⊢
    cases hs : o.solo with
    | true => rfl
    | false =>
      rw [hs] at e2
      simp only [cond_false] at e2 ⊢
      split at e2
      · rename_i q hq; rw [h _ _ hq]; exact e2
      · cases e2
  simp [this]

theorem cellsAt_ext {s s' : St} (h : Ext s s') {n : Nat} {a : AV} {l : List AV} (e : cellsAt n a s = some l) : cellsAt n a s' = some l := by
  unfold cellsAt at e ⊢
  cases a with
  | ptr r off =>
    simp only at e ⊢
    split at e
    · rename_i o ho; rw [rowAt_ext h ho]; exact e
    · cases e
  | _ => exact e

theorem cell1_ext {s s' : St} (h : Ext s s') {a x : AV} (e : cell1 a s = some x) : cell1 a s' = some x := by
  unfold cell1 at e ⊢
  cases a with
  | ptr r off =>
    simp only at e ⊢
    split at e
    · rename_i o ho; rw [rowAt_ext h ho]; exact e
    · cases e
  | _ => exact e

theorem elemsN_ext {s s' : St} (h : Ext s s') {es m : Nat} {a : AV} {l : List AV} (e : elemsN es m a s = some l) : elemsN es m a s' = some l := by
  unfold elemsN at e ⊢
  cases a with
  | sl r off len es' t =>
    simp only at e ⊢
    rcases Bool.eq_false_or_eq_true (m.beq 0) with hm | hm
    · rw [cond_of_true hm] at e ⊢; exact e
    · rw [cond_of_false hm] at e ⊢
      rcases Bool.eq_false_or_eq_true (es.beq es' && Nat.ble m len) with hq | hq
      · rw [cond_of_true hq] at e ⊢; exact cellsAt_ext h e
      · rw [cond_of_false hq] at e; cases e
  | _ => exact e

theorem toUnsafeC_read {u : TypeId} {x : T → AV} {t : T} {s s1 : St} {v : AV} (e : toUnsafeC P u x t s = .val v s1) : s1 = s ∧ ∀ s', Ext s s' → toUnsafeC P u x t s' = .val v s' := by
  unfold toUnsafeC at e ⊢
  cases hz : sizeT P u with
  | none => rw [hz] at e; cases e
  | some n =>
    cases n with
    | zero => rw [hz] at e; cases e
    | succ n =>
      simp only [hz] at e ⊢
      cases hx : x t with
      | nilp => simp only [hx] at e; cases e; exact ⟨rfl, fun s' _ => rfl⟩
      | ptr r off =>
        simp only [hx] at e ⊢
        cases hr : rowAt s r with
        | none => rw [hr] at e; cases e
        | some q =>
          rw [hr] at e
          simp only at e
          rcases Bool.eq_false_or_eq_true (Nat.blt off q.vals.length) with hb | hb
          · rw [cond_of_true hb] at e
            cases e
            exact ⟨rfl, fun s' h => by rw [rowAt_ext h hr]; simp only [hb, cond_true]⟩
          · rw [cond_of_false hb] at e; cases e
      | _ => simp only [hx] at e; cases e

theorem fromUnsafeC_read {u : TypeId} {x : T → AV} {t : T} {s s1 : St} {v : AV} (e : fromUnsafeC P u x t s = .val v s1) : s1 = s ∧ ∀ s', Ext s s' → fromUnsafeC P u x t s' = .val v s' := by
  unfold fromUnsafeC at e ⊢
  cases hz : sizeT P u with
  | none => rw [hz] at e; cases e
  | some n =>
    cases n with
    | zero => rw [hz] at e; cases e
    | succ n =>
      simp only [hz] at e ⊢
      cases hx : x t with
      | nilp => simp only [hx] at e; cases e; exact ⟨rfl, fun s' _ => rfl⟩
      | ptr r off =>
        cases off with
        | succ off => simp only [hx] at e; cases e
        | zero =>
          simp only [hx] at e ⊢
          cases hr : rowAt s r with
          | none => rw [hr] at e; cases e
          | some q =>
            rw [hr] at e
            simp only at e
            rcases Bool.eq_false_or_eq_true (q.root.beq r && (q.ty.beq u && Nat.ble (n + 1) q.vals.length)) with hb | hb
            · rw [cond_of_true hb] at e
              cases e
              exact ⟨rfl, fun s' h => by rw [rowAt_ext h hr]; simp only [hb, cond_true]⟩
            · rw [cond_of_false hb] at e; cases e
      | _ => simp only [hx] at e; cases e

theorem convC_read {src dst : TypeId} {x : T → AV} {t : T} {s s1 : St} {v : AV} (hs : (∃ u, P.underlying src = some (.pointer u)) ∨ P.underlying src = some .unsafePointer)
    (e : convC P G o src dst x t s = .val v s1) : s1 = s ∧ ∀ s', Ext s s' → convC P G o src dst x t s' = .val v s' := by
  suffices key : ∀ F, convC P G o src dst x = F → F t s = .val v s1 → s1 = s ∧ ∀ s', Ext s s' → F t s' = .val v s' from key _ rfl e
  intro F hF e
  unfold convC at hF
  split at hF <;> subst hF
  · exact toUnsafeC_read e
  · exact fromUnsafeC_read e
  · obtain ⟨h1, h2⟩ := (convertC_free (P := P) (G := G) (o := o) src dst x (fun e he => by
      rcases hs with ⟨u, hs⟩ | hs <;> rw [hs] at he <;> cases he)).val e
    exact ⟨h1, fun s' _ => h2 s'⟩

/-- An operation of the second kind leaves all as it is, and reads the same where all that was there is there. -/
theorem opC_read (hk : kdOf P o = .read) {t : T} {s s1 : St} {v : AV} (e : opC P G callF o t s = .val v s1) :
    s1 = s ∧ ∀ s', Ext s s' → opC P G callF o t s' = .val v s' := by
  cases ho : o.op <;> simp only [kdOf, ho] at hk <;> try (cases hk; done)
  case load ty a =>
    simp only [opC, ho] at e ⊢
    unfold loadC at e ⊢
    cases hs : shapeT P ty with
    | none => rw [hs] at e; cases e
    | some n => cases n with
      | none =>
        rw [hs] at e
        simp only [valO] at e ⊢
        split at e
        · rename_i y hy
          cases e
          exact ⟨rfl, fun s' h => by rw [cell1_ext h hy]⟩
        · cases e
      | some n =>
        rw [hs] at e
        simp only [aggO] at e ⊢
        split at e
        · rename_i y hy
          cases e
          exact ⟨rfl, fun s' h => by rw [cellsAt_ext h hy]⟩
        · cases e
  case convert src dst x =>
    cases hu : P.underlying src with
    | none => rw [hu] at hk; cases hk
    | some d => cases d with
      | slice el =>
        simp only [opC, ho] at e ⊢
        rw [convC_eq (fun u he => by rw [hu] at he; cases he) (fun he => by rw [hu] at he; cases he)] at e ⊢
        unfold convertC at e ⊢
        simp only [hu] at e ⊢
        cases hd : P.underlying dst with
        | none =>
          simp only [hd] at e ⊢
          obtain ⟨h1, h2⟩ := (plainC_free (P := P) (G := G) (o := o)).val e
          exact ⟨h1, fun s' _ => h2 s'⟩
        | some d2 => cases d2 with
          | string =>
            simp only [hd] at e ⊢
            by_cases h8 : P.underlying el = some (.int .u8)
            · simp only [h8] at e ⊢
              cases hn : lenA (evC G x t) with
              | none => rw [hn] at e; cases e
              | some n =>
                simp only [hn] at e ⊢
                generalize evC G x t = a at e ⊢
                cases a with
                | str l => cases e
                | _ =>
                  simp only at e ⊢
                  split at e
                  · rename_i cs hcs
                    split at e
                    · rename_i l hl
                      cases e
                      exact ⟨rfl, fun s' h => by rw [elemsN_ext h hcs]; simp only [hl]⟩
                    · cases e
                  · cases e
            · suffices key : ∀ F, (match P.underlying el with
                  | some (.int .u8) => fun (t : T) (s : St) => match lenA (evC G x t) with
                    | some n => match evC G x t with
                      | .str _ => Nx.fail
                      | a => match elemsN 1 n a s with
                        | some cs => match bytesOf cs with | some l => .val (.str l) s | none => .fail
                        | none => .fail
                    | none => .fail
                  | _ => failC) = F → F t s = .val v s1 → s1 = s ∧ ∀ s', Ext s s' → F t s' = .val v s' from key _ rfl e
              intro F hF e
              split at hF
              · rename_i h9; exact absurd h9 h8
              · subst hF; cases e
          | _ =>
            simp only [hd] at e ⊢
            obtain ⟨h1, h2⟩ := (plainC_free (P := P) (G := G) (o := o)).val e
            exact ⟨h1, fun s' _ => h2 s'⟩
      | pointer u =>
        simp only [opC, ho] at e ⊢
        exact convC_read (.inl ⟨u, hu⟩) e
      | unsafePointer =>
        simp only [opC, ho] at e ⊢
        exact convC_read (.inr hu) e
      | _ => rw [hu] at hk; cases hk
  case slice ty x lo hi mx => split at hk <;> cases hk
  case call c =>
    obtain ⟨cal, args, ts⟩ := c
    cases cal with
    | builtin b =>
      cases b <;> try (cases hk; done)
      simp only at hk
      split at hk
      · split at hk <;> cases hk
      · cases hk
    | _ => cases hk
end
end Go.Am
