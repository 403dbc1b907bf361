/- PrimTexts returns true at every input and leaves its arguments as they were, where the listed package-level variables hold what the program's text lays in them (the tied card of the given statement). -/
import Derived.Test.YtlibahklbbachaaGreatDoorTx38
import Derived.Test.YtlibahklbbachaaGreatDoorRows
import Derived.Test.YtlibahklbbachaaGreatDoorTie
import Derived.Test.YtlibahklbbachaaGreatDoorCards
import Derived.ProofKit
import Derived.OpenShut
import Derived.LaidMore
import Derived.Lay
import Derived.SevenTiedAt
import Derived.Stop.Joined
import Derived.Lib.SmallJoins
import Derived.Lib.LaidTab
import Derived.Lib.LaidU8
import Derived.LaidLaws
set_option autoImplicit false
set_option maxRecDepth 100000
set_option linter.unusedSimpArgs false
set_option linter.unusedVariables false
set_option maxHeartbeats 8000000
namespace Go.Proofs.YtlibahklbbachaaGreatDoor
open Go.ChangeShapes Go.WideShapes Go.ChangeAt Go.RowKit Go.Joins
namespace Texts
theorem own : ownKnob Tryz.prog.godebug = none := by kernel_rfl
theorem laidOut : laidOutB Tryz.prog = true := by kernel_rfl
theorem cells47 : Tryz.prog.cellsOf 47 = 2 := by kernel_rfl
set_option maxRecDepth 100000 in
theorem witness (os : Os) (H : Type) (enc : TypeId × Value → H) :
    ∃ (w : World) (tape : Tape) (i : Input), w.os = os ∧ (w.forCall tape i).Shaped Tryz.prog ∧ i.vars = [] ∧ Input.okWide Tryz.prog (w.forCall tape i) .any w.heap.size 5 i ∧
      ((Rows.primTextsSpec.pre enc Tryz.prog Tryz.f5 Rows.primTextsRow.domain false (w.forCall tape i).memory i.args ∧ laidMetH Tryz.prog Rows.primTextsRow.laid (w.forCall tape i).memory) ∧ sizedMet enc Tryz.prog Tryz.f5 (OpenSpec.ofChange Rows.primTextsSpec) false (w.forCall tape i).memory i.args) ∧ ({} : Assume).holds Tryz.prog (lone (Frame.enter Tryz.prog 5 i.args .normal) [] (w.forCall tape i)) :=
  ChangeSpec.witness_shaped (enc := enc) (C := Tryz.checked) (os := os) (X := fun w _ => laidMetH Tryz.prog Rows.primTextsRow.laid w) false (World.laidAll Tryz.prog os Rows.primTextsRow.laid) #[.string .empty, .string .empty, .agg #[.bool false, .slice none 0 0]] 8 (World.laidAll_os _ _ _)
      (World.shaped_of_ZipB (by kernel_rfl) (by kernel_rfl)) (by kernel_rfl) (by kernel_rfl) (by kernel_rfl)
      (by rw [MakeChecks.laidMetH_plain _ _ _ (by kernel_rfl)]; exact laidMet_laidAll _ (by kernel_rfl) (by kernel_rfl))
theorem isLimbs {H : Type} {enc : TypeId × Value → H} {W : World} {fuel : Nat} {v : Value} {x : DataW H × List MemPlace} (h : DataW.trod enc Tryz.prog W 0 (fun _ => true) true fuel 45 [v] = some x) : ∃ a len cap ls, v = .slice a len cap ∧ Am.Txt.IsLimbs W a len cap ls := by
  rcases open_ints Tryz.underlying45 Tryz.underlying75 (by kernel_rfl) h with ⟨hcs, _⟩ | ⟨x, l, c, zs, hcs, _, hl, hm, hz, _, hcell, hwf⟩
  · simp only [List.cons.injEq, and_true] at hcs
    exact ⟨none, 0, 0, [], hcs, Nat.le_refl _, .inl ⟨rfl, rfl, rfl⟩⟩
  · simp only [List.cons.injEq, and_true] at hcs
    have hz : zs.length = c := by simpa using hz
    refine ⟨some x, l, c, (zs.take l).map Int.toNat, hcs, hl, .inr ⟨_, rfl, by simp; omega, fun i hi => ?_⟩⟩
    rw [List.length_map, List.length_take] at hi
    have hi2 : i < zs.length := by omega
    rw [hcell i hi2]
    have h0 := hwf zs[i] (List.getElem_mem hi2)
    simp only [Lit.wf, Bool.and_eq_true, decide_eq_true_eq] at h0
    have h1 : 0 ≤ zs[i] := by simpa [IntKind.min, IntKind.signed] using h0.1
    have e : zs.getD i 0 = zs[i] := by simp [List.getD, hi2]
    rw [e]
    simp only [List.getElem_map, List.getElem_take]
    rw [show Int.ofNat (zs[i]).toNat = zs[i] from Int.toNat_of_nonneg h1]
set_option maxRecDepth 100000 in
theorem tab_laid {W : World} (h : laidMetH Tryz.prog Rows.primTextsRow.laid W) : Lib.TabIs Tryz.prog W "internal/strconv.uint64pow10" .u64 Lib.pow10Tab := by
  rw [MakeChecks.laidMetH_plain _ _ _ (by kernel_rfl)] at h
  obtain ⟨ps, hv, _⟩ := h
  obtain ⟨_, _, _, _, _, _, _, _, _, _, hv, _⟩ := hv
  obtain ⟨_, _, _, _, _, _, _, _, _, _, hv, _⟩ := hv
  obtain ⟨g', t', cs, fuel, p, q, hg', ht', hvar, hd, _, _⟩ := hv
  obtain rfl := Option.some.inj ((show Tryz.prog.globalNamed "internal/strconv.uint64pow10" = some 4 by kernel_rfl).symm.trans hg')
  obtain rfl := Option.some.inj ((show (Tryz.prog.globals[4]?).map (·.type) = some 291 by kernel_rfl).symm.trans ht')
  unfold Lib.TabIs
  have e : (Rows.laid_internal_strconv_uint64pow10 : DataW Unit) = Lib.tabData .u64 Lib.pow10Tab := by kernel_rfl
  have hd := hd.trans (congrArg (fun x => some (x, p)) e)
  rw [hvar, ← Lib.cells_of_tab (zs := Lib.pow10Tab) Tryz.underlying291 Tryz.underlying179 (by kernel_rfl) (by kernel_rfl) hd]
theorem star : "*" ++ "errors.errorString" = "*errors.errorString" := by decide
theorem name275 {u : TypeId} (h : Tryz.prog.typeName? 3 u = some "*errors.errorString") : u = 275 :=
  typeName_ptr_named (nm := "errors.errorString") (by rw [star]; kernel_rfl) (by kernel_rfl) (by decide) u (by rw [star]; exact h)
set_option maxRecDepth 100000 in
theorem err_laid {W : World} (h : laidMetH Tryz.prog Rows.primTextsRow.laid W) : ∃ v, W.cell? ⟨3, 0, none⟩ = some (.iface 275 v) := by
  rw [MakeChecks.laidMetH_plain _ _ _ (by kernel_rfl)] at h
  obtain ⟨ps, hv, _⟩ := h
  obtain ⟨_, _, _, _, _, _, _, _, _, _, hv, _⟩ := hv
  obtain ⟨_, _, _, _, _, _, _, _, _, _, hv, _⟩ := hv
  obtain ⟨_, _, _, _, _, _, _, _, _, _, hv, _⟩ := hv
  obtain ⟨_, _, _, _, _, _, _, _, _, _, hv, _⟩ := hv
  obtain ⟨g', t', cs, fuel, p, q, hg', ht', hvar, hd, _, _⟩ := hv
  obtain rfl := Option.some.inj ((show Tryz.prog.globalNamed "strconv.ErrRange" = some 3 by kernel_rfl).symm.trans hg')
  obtain rfl := Option.some.inj ((show (Tryz.prog.globals[3]?).map (·.type) = some 104 by kernel_rfl).symm.trans ht')
  obtain ⟨_, u, v, hcs, hn, _⟩ := iface_of_trod Tryz.underlying104 hd
  have hu := name275 hn
  subst hu
  refine ⟨v, ?_⟩
  rw [World.var?_cell hg' hvar 0, ← Array.getElem?_toList, hcs]; rfl
set_option maxRecDepth 100000 in
theorem first_laid {W : World} (h : laidMetH Tryz.prog Rows.primTextsRow.laid W) : ∀ i v, (Am.Txt.firstTab.map (Value.int .u8))[i]? = some v → W.cell? ⟨0, i, none⟩ = some v := by
  rw [MakeChecks.laidMetH_plain _ _ _ (by kernel_rfl)] at h
  obtain ⟨ps, hv, _⟩ := h
  obtain ⟨_, _, _, _, _, _, _, _, _, _, hv, _⟩ := hv
  obtain ⟨_, _, _, _, _, _, _, _, _, _, hv, _⟩ := hv
  obtain ⟨_, _, _, _, _, _, _, _, _, _, hv, _⟩ := hv
  obtain ⟨_, _, _, _, _, _, _, _, _, _, hv, _⟩ := hv
  obtain ⟨_, _, _, _, _, _, _, _, _, _, hv, _⟩ := hv
  obtain ⟨_, _, _, _, _, _, _, _, _, _, hv, _⟩ := hv
  obtain ⟨g', t', cs, fuel, p, q, hg', ht', hvar, hd, _, _⟩ := hv
  obtain rfl := Option.some.inj ((show Tryz.prog.globalNamed "unicode/utf8.first" = some 0 by kernel_rfl).symm.trans hg')
  obtain rfl := Option.some.inj ((show (Tryz.prog.globals[0]?).map (·.type) = some 216 by kernel_rfl).symm.trans ht')
  have e : (Rows.laid_unicode_utf8_first : DataW Unit) = Lib.tabData .u8 Am.Txt.firstTab := by kernel_rfl
  have hd := hd.trans (congrArg (fun x => some (x, p)) e)
  have hcs := Lib.cells_of_tab (zs := Am.Txt.firstTab) Tryz.underlying216 Tryz.underlying5 (by kernel_rfl) (by kernel_rfl) hd
  intro i v hi
  rw [World.var?_cell hg' hvar i, ← Array.getElem?_toList, hcs]
  exact hi
def acceptD : DataW Unit := .agg ((List.range 16).map fun i => .agg ([Am.Txt.acceptTab.getD (2 * i) 0, Am.Txt.acceptTab.getD (2 * i + 1) 0].map fun z => .lit (.int .u8 z)))
set_option maxRecDepth 100000 in
theorem accept_laid {W : World} (h : laidMetH Tryz.prog Rows.primTextsRow.laid W) : ∀ i v, (Am.Txt.acceptTab.map (Value.int .u8))[i]? = some v → W.cell? ⟨1, i, none⟩ = some v := by
  rw [MakeChecks.laidMetH_plain _ _ _ (by kernel_rfl)] at h
  obtain ⟨ps, hv, _⟩ := h
  obtain ⟨_, _, _, _, _, _, _, _, _, _, hv, _⟩ := hv
  obtain ⟨_, _, _, _, _, _, _, _, _, _, hv, _⟩ := hv
  obtain ⟨_, _, _, _, _, _, _, _, _, _, hv, _⟩ := hv
  obtain ⟨g', t', cs, fuel, p, q, hg', ht', hvar, hd, _, _⟩ := hv
  obtain rfl := Option.some.inj ((show Tryz.prog.globalNamed "unicode/utf8.acceptRanges" = some 1 by kernel_rfl).symm.trans hg')
  obtain rfl := Option.some.inj ((show (Tryz.prog.globals[1]?).map (·.type) = some 219 by kernel_rfl).symm.trans ht')
  have e : (Rows.laid_unicode_utf8_acceptRanges : DataW Unit) = acceptD := by kernel_rfl
  have hd := hd.trans (congrArg (fun x => some (x, p)) e)
  have c5 : Tryz.prog.cellsOf 5 = 1 := by kernel_rfl
  have c218 : Tryz.prog.cellsOf 218 = 2 := by kernel_rfl
  have each : ∀ i, i < 16 → W.cell? ⟨1, 2 * i, none⟩ = some (.int .u8 (Am.Txt.acceptTab.getD (2 * i) 0)) ∧ W.cell? ⟨1, 2 * i + 1, none⟩ = some (.int .u8 (Am.Txt.acceptTab.getD (2 * i + 1) 0)) := fun i hi => by
    obtain ⟨fuel', d, q, hdi, he⟩ := Lib.array_elem Tryz.underlying219 hd i hi
    simp only [List.getElem?_map, List.getElem?_range hi, Option.map_some, Option.some.injEq] at hdi
    subst hdi
    rw [c218] at he
    have hcs := Lib.ints_of_struct Tryz.underlying218 (fun j f hj => by
      match j, hj with
      | 0, hj => simp at hj; subst hj; exact ⟨Tryz.underlying5, rfl, c5⟩
      | 1, hj => simp at hj; subst hj; exact ⟨Tryz.underlying5, rfl, c5⟩
      | j + 2, hj => simp at hj) (by rw [c218]; rfl) he
    have e0 := congrArg (·[0]?) hcs
    have e1 := congrArg (·[1]?) hcs
    simp only [List.getElem?_take, List.getElem?_drop] at e0 e1
    constructor
    · rw [World.var?_cell hg' hvar (2 * i), ← Array.getElem?_toList]
      simpa [Nat.mul_comm] using e0
    · rw [World.var?_cell hg' hvar (2 * i + 1), ← Array.getElem?_toList]
      simpa [Nat.mul_comm] using e1
  intro i v hi
  have h32 : Am.Txt.acceptTab.length = 32 := by kernel_rfl
  rw [List.getElem?_map] at hi
  have hlt : i < 32 := by
    rcases Nat.lt_or_ge i 32 with h | h
    · exact h
    · rw [List.getElem?_eq_none (by rw [h32]; exact h)] at hi; cases hi
  have hv : v = .int .u8 (Am.Txt.acceptTab.getD i 0) := by
    rw [List.getElem?_eq_getElem (by rw [h32]; exact hlt)] at hi
    cases hi
    simp [List.getD, show i < Am.Txt.acceptTab.length by rw [h32]; exact hlt]
  rw [hv]
  obtain ⟨k0, k1⟩ := each (i / 2) (by omega)
  rcases Nat.mod_two_eq_zero_or_one i with hm | hm
  · rw [show 2 * (i / 2) = i by omega] at k0; exact k0
  · rw [show 2 * (i / 2) + 1 = i by omega] at k1; exact k1
theorem glo {W : World} (h : laidMetH Tryz.prog Rows.primTextsRow.laid W) : Am.Txt.Glo W := ⟨first_laid h, accept_laid h, err_laid h, tab_laid h⟩
set_option maxRecDepth 100000 in
theorem lifted (os : Os) (started : os.Started) (H : Type) (enc : TypeId × Value → H) :
    ReturnsInHanded {} Tryz.checked os 5 .any (fun w args => (Rows.primTextsSpec.pre enc Tryz.prog Tryz.f5 Rows.primTextsRow.domain false w args ∧ laidMetH Tryz.prog Rows.primTextsRow.laid w) ∧ sizedMet enc Tryz.prog Tryz.f5 (OpenSpec.ofChange Rows.primTextsSpec) false w args)
      (Rows.primTextsSpec.post enc Tryz.prog Tryz.f5 false true false false) := by
  refine returnsInHanded_of_change_and (C := Tryz.checked) (X := fun w _ => laidMetH Tryz.prog Rows.primTextsRow.laid w) (fun _ _ _ hh h => h.of_heap hh) own started (by kernel_rfl) Tryz.func5 (witness os H enc) ?_
  intro W base args ds gs before hval0 hW hc _ hL _
  have hval : ∀ (j : Nat) t v, Tryz.f5.params[j]? = some t → args[j]? = some v → Value.okWide Tryz.prog W .any base t v := hval0
  have hW' := hW
  obtain ⟨p, q, hA0, hV, rfl, _, _⟩ := hW
  have hA : DataW.TrodAll enc Tryz.prog W 0 (fun _ => true) true Tryz.f5.params.toList args.toList ds p := hA0
  rw [Tryz.params5] at hA hval
  obtain ⟨v0, vs0, d0, ds0, p0, q0, hargs, rfl, rfl, h0, r0⟩ := trodAll_cons hA
  obtain ⟨v1, vs1, d1, ds1, p1, q1, rfl, rfl, rfl, h1, r1⟩ := trodAll_cons r0
  obtain ⟨v2, vs2, d2, ds2, p2, q2, rfl, rfl, rfl, h2, r2⟩ := trodAll_cons r1
  obtain ⟨rfl, rfl, rfl⟩ := trodAll_nil r2
  obtain rfl : args = #[v0, v1, v2] := by cases args; simp_all
  obtain ⟨rfl, rfl⟩ := trodVars_none hV
  obtain ⟨s0, rfl, rfl, rfl, w0⟩ := ChangeMaps.open_string Tryz.underlying9 (hval 0 9 v0 rfl rfl) h0
  obtain ⟨s1, rfl, rfl, rfl, w1⟩ := ChangeMaps.open_string Tryz.underlying9 (hval 1 9 v1 rfl rfl) h1
  have h2' := h2
  obtain ⟨c0, c1, y0, y1, m, rfl, rfl, rfl, hy0, hy1⟩ := open_agg2 Tryz.underlying47 (by kernel_rfl) cells47 (hval 2 47 v2 rfl rfl) h2
  obtain ⟨g, e0, hx0⟩ := DataW.trod_bool Tryz.underlying4 hy0
  simp only [List.cons.injEq, and_true] at e0
  subst e0
  obtain ⟨a, len, cap, ls, rfl, wl⟩ := isLimbs hy1
  have lt2 : ∀ x ∈ y0.2 ++ y1.2, x.block < W.heap.size := by obtain ⟨m, hm⟩ := h2'; exact DataW.trod_lt m _ _ _ hm
  clear hA0 hval0
  refine (Am.Txt.walk5 s0 s1 g a len cap ls W wl (glo hL)).mono fun e W' ⟨he, bel⟩ => ?_
  subst he
  exact ⟨_, rfl, _, _, _, [], _, [], hW', trodAll_mk1 (shut_bool Tryz.underlying4 _), (trodAll_cons_mk (ChangeMaps.shut_string Tryz.underlying9 w0) (trodAll_cons_mk (ChangeMaps.shut_string Tryz.underlying9 w1) (trodAll_cons_mk (Below.trod laidOut (by kernel_rfl) (of_decide_eq_true (by kernel_rfl)) h2' bel lt2) trodAll_mk0))), rfl, bel.frame _, fun h => by cases h⟩
theorem j1 : (Rows.primTextsRow.inPlace == Tryz.prog.inPlace 5) = true := by kernel_rfl
theorem j2 : (Rows.primTextsRow.unfollowed == Tryz.prog.unfollowed 5) = true := by kernel_rfl
theorem j3 : (Rows.primTextsRow.recurses == Tryz.prog.recurses 5) = true := by kernel_rfl
theorem j4 : (Rows.primTextsRow.named == Tryz.prog.varsNamed 5) = true := by kernel_rfl
theorem joined : joinedFacts Tryz.prog 5 Tryz.f5 Rows.primTextsSpec Rows.primTextsRow = true := by
  unfold joinedFacts
  rw [j1, j2, j3, j4]
  kernel_rfl
theorem holds : Rows.PrimTextsSaid :=
  OpenClaim.holds_of_wide 5 Tryz.f5 rfl rfl rfl rfl rfl rfl rfl ⟨rfl, rfl, rfl, rfl, rfl⟩ rfl rfl rfl rfl rfl (by as_aux_lemma => kernel_rfl) Tryz.func5 joined
    (of_decide_eq_true (by as_aux_lemma => kernel_rfl)) (by unfold Func.isWrapper; first | (rw [if_pos (by decide +kernel)]; kernel_rfl) | (rw [if_neg (by decide +kernel)]; exact ⟨rfl, rfl⟩))
    (fun os started H enc _ => lifted os started H enc)
theorem noGo : (Tryz.prog.funcs.toList.all fun fn => !fn.goes) = true := by kernel_rfl
theorem noGoAt (g : FuncId) : (Tryz.prog.funcs[g]?).any Func.goes = false := by
  cases h : Tryz.prog.funcs[g]? with
  | none => rfl
  | some fn =>
    have := List.all_eq_true.1 noGo fn (Array.mem_toList_iff.2 (Array.mem_of_getElem? h))
    simpa using this
theorem noGoes (f : FuncId) : Tryz.prog.goes f = false := by
  unfold Program.goes
  rw [Bool.or_eq_false_iff]
  refine ⟨?_, ?_⟩
  · rw [List.any_eq_false]
    intro g _
    rw [noGoAt g]
    simp
  · rw [Bool.and_eq_false_iff]
    refine .inr ?_
    rw [← Array.any_toList, List.any_eq_false]
    intro fn hfn
    have := List.all_eq_true.1 noGo fn hfn
    simpa using this
theorem goesAny (o : Option FuncId) : o.any Tryz.prog.goes = false := by
  cases o with
  | none => rfl
  | some f => rw [Option.any_some, noGoes f]
theorem goesNot : false = Rows.primTextsRow.goesBy Tryz.prog := by
  unfold OpenClaim.goesBy Program.goesAt Program.goesFrom
  rw [goesAny]
  rfl
end Texts
theorem primTexts_card : Rows.PrimTextsCardSaid :=
  Claim7.holds_tied_plain_at .later [] [.data, .data, .data, .data, .sentinel, .sentinel, .pinned] true (true, "ecae2bca8e89a999d223f899ad5080887fc1c2dd4a56440504861f3312c3fd5a") true Texts.holds (fun _ h => by cases h) (by as_aux_lemma => kernel_rfl) (fun _ h => by cases h) primTexts_row_tie rfl ⟨rfl, rfl⟩ (by as_aux_lemma => kernel_rfl) rfl
    (fun f fn hf hfn => by
      obtain rfl : f = 5 := Option.some.inj ((show Tryz.prog.funcNamed "marginalia/marginalialaw15.PrimTexts" = some 5 by kernel_rfl).symm.trans hf) |>.symm
      obtain rfl : fn = Tryz.f5 := (Option.some.inj (Tryz.func5.symm.trans hfn)).symm
      exact ⟨by kernel_rfl, fun j t ht => by
        rw [Tryz.params5] at ht
        have hm : t ∈ [9, 9, 47] := by simpa using Array.mem_of_getElem? ht
        have hall : ([9, 9, 47].all fun u => !Tryz.prog.wantsStandIn u) = true := by kernel_rfl
        exact (show Tryz.prog.wantsStandIn t = false by simpa using List.all_eq_true.1 hall t hm)⟩)
    Texts.goesNot
#print axioms primTexts_card
end Go.Proofs.YtlibahklbbachaaGreatDoor
