import Derived.Test.YtlibahklbbachaaGreatDoorRf43
import Derived.Test.YtlibahklbbachaaGreatDoorRows
import Derived.Test.YtlibahklbbachaaGreatDoorTie
import Derived.Test.YtlibahklbbachaaGreatDoorCards
import Derived.ProofKit
import Derived.OpenShut
import Derived.LaidMore
import Derived.Lay
import Derived.SevenTiedAt
import Derived.Stop.Joined
import Derived.Lib.SmallJoins
import Derived.Lib.LaidTab
import Derived.LaidLaws
set_option autoImplicit false
set_option maxRecDepth 100000
set_option linter.unusedSimpArgs false
set_option linter.unusedVariables false
set_option maxHeartbeats 8000000
namespace Go.Proofs.YtlibahklbbachaaGreatDoor
open Go.ChangeShapes Go.WideShapes Go.ChangeAt Go.RowKit Go.Joins
namespace Refuses
theorem own : ownKnob Tryz.prog.godebug = none := by kernel_rfl
theorem laidOut : laidOutB Tryz.prog = true := by kernel_rfl
set_option maxRecDepth 100000 in
theorem witness (os : Os) (H : Type) (enc : TypeId × Value → H) :
  ∃ (w : World) (tape : Tape) (i : Input), w.os = os ∧ (w.forCall tape i).Shaped Tryz.prog ∧ i.vars = [] ∧ Input.okWide Tryz.prog (w.forCall tape i) .any w.heap.size 3 i ∧
   ((Rows.primRefusesSpec.pre enc Tryz.prog Tryz.f3 Rows.primRefusesRow.domain false (w.forCall tape i).memory i.args ∧ laidMetH Tryz.prog Rows.primRefusesRow.laid (w.forCall tape i).memory) ∧ sizedMet enc Tryz.prog Tryz.f3 (OpenSpec.ofChange Rows.primRefusesSpec) false (w.forCall tape i).memory i.args) ∧ ({} : Assume).holds Tryz.prog (lone (Frame.enter Tryz.prog 3 i.args .normal) [] (w.forCall tape i)) :=
 ChangeSpec.witness_shaped (enc := enc) (C := Tryz.checked) (os := os) (X := fun w _ => laidMetH Tryz.prog Rows.primRefusesRow.laid w) false (World.laidAll Tryz.prog os Rows.primRefusesRow.laid) #[.int .i64 0, .slice none 0 0] 8 (World.laidAll_os _ _ _)
   (World.shaped_of_ZipB (by kernel_rfl) (by kernel_rfl)) (by kernel_rfl) (by kernel_rfl) (by kernel_rfl)
   (by rw [MakeChecks.laidMetH_plain _ _ _ (by kernel_rfl)]; exact laidMet_laidAll _ (by kernel_rfl) (by kernel_rfl))
theorem add_add (x : Addr) (m : Nat) : (x.add m).add 1 = x.add (m + 1) := by
 unfold Addr.add
 by_cases h : m = 0
 ·subst h; simp
 ·simp [h, Nat.add_assoc]
set_option maxRecDepth 100000 in
theorem isVals {H : Type} {enc : TypeId × Value → H} {W : World} {a : Option Addr} {len cap : Nat} {d : DataW H} {p : List MemPlace} (h : DataW.Trod enc Tryz.prog W 0 (fun _ => true) true 22 (.slice a len cap) d p) : ∃ l, Am.Sto.IsVals W a len cap l := by
 obtain ⟨fuel, hf⟩ := h
 have hc2 : Tryz.prog.cellsOf 29 = 2 := by kernel_rfl
 have hc1 : Tryz.prog.cellsOf 3 = 1 := by kernel_rfl
 rcases DataW.trod_slice Tryz.underlying22 hf with ⟨hcs, _⟩ | ⟨x, l, c, elems, rest, n, _, hcs, _, _, hl, _, hlen, hel, _⟩
 ·simp [Value.cells] at hcs
  obtain ⟨rfl, rfl, rfl⟩ := hcs
  exact ⟨[], Nat.le_refl _, .inl ⟨rfl, rfl, rfl⟩⟩
 ·simp [Value.cells] at hcs
  obtain ⟨rfl, rfl, rfl⟩ := hcs
  have each : ∀ i, i < len → ∃ q : Int × Int, W.cell? (x.add (i * 2)) = some (.int .i64 q.1) ∧ W.cell? (x.add (i * 2 + 1)) = some (.int .i64 q.2) := fun i hi => by
   have he := hel i hi
   rw [hc2, List.getElem?_eq_getElem (by omega), Option.bind_eq_some_iff] at he
   obtain ⟨cs, h1, h2⟩ := he
   obtain ⟨y0, y1, m, _, h3, h4, h5⟩ := trod_struct2 Tryz.underlying29 h2
   rw [hc2] at h3
   obtain ⟨c0, c1, rfl⟩ : ∃ c0 c1, cs = [c0, c1] := by
    match cs, h3 with
    | [c0, c1], _ => exact ⟨c0, c1, rfl⟩
   obtain ⟨m0, k0, _⟩ := DataW.trod_int Tryz.underlying3 (by simpa [hc1] using h4)
   obtain ⟨m1, k1, _⟩ := DataW.trod_int Tryz.underlying3 (by simpa [hc1] using h5)
   obtain ⟨_, g⟩ := World.cells?_some h1
   simp only [List.cons.injEq, and_true] at k0 k1
   subst k0 k1
   refine ⟨(m0, m1), ?_, ?_⟩
   ·have := g.2 0 (by omega)
    simpa [Addr.add] using this
   ·have := g.2 1 (by omega)
    rw [add_add] at this
    simpa using this
  have lst : ∀ k, k ≤ len → ∃ l : List (Int × Int), l.length = k ∧ ∀ i p, l[i]? = some p → W.cell? (x.add (i * 2)) = some (.int .i64 p.1) ∧ W.cell? (x.add (i * 2 + 1)) = some (.int .i64 p.2) := fun k => by
   induction k with
   | zero => exact fun _ => ⟨[], rfl, fun i p h => by simp at h⟩
   | succ k ih =>
    intro hk
    obtain ⟨l, l1, l2⟩ := ih (by omega)
    obtain ⟨q, q1, q2⟩ := each k (by omega)
    refine ⟨l ++ [q], by simp [l1], fun i p hp => ?_⟩
    rcases Nat.lt_or_ge i l.length with h | h
    ·rw [List.getElem?_append_left h] at hp; exact l2 i p hp
    ·rw [List.getElem?_append_right h] at hp
     have hi : i = k := by
      rcases Nat.lt_or_ge (i - l.length) 1 with h' | h'
      ·omega
      ·rw [List.getElem?_eq_none (by simpa using h')] at hp; cases hp
     subst hi
     rw [show i - l.length = 0 by omega] at hp
     cases hp
     exact ⟨q1, q2⟩
  obtain ⟨l, l1, l2⟩ := lst len (Nat.le_refl _)
  exact ⟨l, hl, .inr ⟨_, rfl, l1, l2⟩⟩
set_option maxRecDepth 100000 in
theorem tab_laid {W : World} (h : laidMetH Tryz.prog Rows.primRefusesRow.laid W) : Lib.TabIs Tryz.prog W "internal/strconv.uint64pow10" .u64 Lib.pow10Tab := by
 rw [MakeChecks.laidMetH_plain _ _ _ (by kernel_rfl)] at h
 obtain ⟨ps, hv, _⟩ := h
 obtain ⟨_, _, _, _, _, _, _, _, _, _, hv, _⟩ := hv
 obtain ⟨_, _, _, _, _, _, _, _, _, _, hv, _⟩ := hv
 obtain ⟨g', t', cs, fuel, p, q, hg', ht', hvar, hd, _, _⟩ := hv
 obtain rfl := Option.some.inj ((show Tryz.prog.globalNamed "internal/strconv.uint64pow10" = some 4 by kernel_rfl).symm.trans hg')
 obtain rfl := Option.some.inj ((show (Tryz.prog.globals[4]?).map (·.type) = some 291 by kernel_rfl).symm.trans ht')
 unfold Lib.TabIs
 have e : (Rows.laid_internal_strconv_uint64pow10 : DataW Unit) = Lib.tabData .u64 Lib.pow10Tab := by kernel_rfl
 have hd := hd.trans (congrArg (fun x => some (x, p)) e)
 rw [hvar, ← Lib.cells_of_tab (zs := Lib.pow10Tab) Tryz.underlying291 Tryz.underlying179 (by kernel_rfl) (by kernel_rfl) hd]
theorem star : "*" ++ "errors.errorString" = "*errors.errorString" := by decide
theorem name275 {u : TypeId} (h : Tryz.prog.typeName? 3 u = some "*errors.errorString") : u = 275 :=
 typeName_ptr_named (nm := "errors.errorString") (by rw [star]; kernel_rfl) (by kernel_rfl) (by decide) u (by rw [star]; exact h)
set_option maxRecDepth 100000 in
theorem err_laid {W : World} (h : laidMetH Tryz.prog Rows.primRefusesRow.laid W) : ∃ v, W.cell? ⟨3, 0, none⟩ = some (.iface 275 v) := by
 rw [MakeChecks.laidMetH_plain _ _ _ (by kernel_rfl)] at h
 obtain ⟨ps, hv, _⟩ := h
 obtain ⟨_, _, _, _, _, _, _, _, _, _, hv, _⟩ := hv
 obtain ⟨_, _, _, _, _, _, _, _, _, _, hv, _⟩ := hv
 obtain ⟨_, _, _, _, _, _, _, _, _, _, hv, _⟩ := hv
 obtain ⟨_, _, _, _, _, _, _, _, _, _, hv, _⟩ := hv
 obtain ⟨g', t', cs, fuel, p, q, hg', ht', hvar, hd, _, _⟩ := hv
 obtain rfl := Option.some.inj ((show Tryz.prog.globalNamed "strconv.ErrRange" = some 3 by kernel_rfl).symm.trans hg')
 obtain rfl := Option.some.inj ((show (Tryz.prog.globals[3]?).map (·.type) = some 104 by kernel_rfl).symm.trans ht')
 obtain ⟨_, u, v, hcs, hn, _⟩ := iface_of_trod Tryz.underlying104 hd
 have hu := name275 hn
 subst hu
 refine ⟨v, ?_⟩
 unfold World.var? at hvar
 rw [hg'] at hvar
 simp only [Option.bind_some] at hvar
 split at hvar
 case h_2 => cases hvar
 rename_i c ty fz hc
 simp only [Option.some.injEq] at hvar
 unfold World.cell?
 simp only [hc]
 subst hvar
 show c[0]? = _
 rw [← Array.getElem?_toList, hcs]; rfl
set_option maxRecDepth 100000 in
theorem lifted (hall : ∀ (op : Int) (l : List (Int × Int)), l ≠ [] → l.length ≤ 30 → Am.Sto.Answered Tryz.prog op l) (os : Os) (started : os.Started) (H : Type) (enc : TypeId × Value → H) :
  ReturnsInHanded {} Tryz.checked os 3 .any (fun w args => (Rows.primRefusesSpec.pre enc Tryz.prog Tryz.f3 Rows.primRefusesRow.domain false w args ∧ laidMetH Tryz.prog Rows.primRefusesRow.laid w) ∧ sizedMet enc Tryz.prog Tryz.f3 (OpenSpec.ofChange Rows.primRefusesSpec) false w args)
   (Rows.primRefusesSpec.post enc Tryz.prog Tryz.f3 false true false false) := by
 refine returnsInHanded_of_change_and (C := Tryz.checked) (X := fun w _ => laidMetH Tryz.prog Rows.primRefusesRow.laid w) (fun _ _ _ hh h => h.of_heap hh) own started (by kernel_rfl) Tryz.func3 (witness os H enc) ?_
 intro W base args ds gs before hval0 hW hc _ hL _
 have hval : ∀ (j : Nat) t v, Tryz.f3.params[j]? = some t → args[j]? = some v → Value.okWide Tryz.prog W .any base t v := hval0
 have hW' := hW
 obtain ⟨p, q, hA0, hV, rfl, _, _⟩ := hW
 have hA : DataW.TrodAll enc Tryz.prog W 0 (fun _ => true) true Tryz.f3.params.toList args.toList ds p := hA0
 rw [Tryz.params3] at hA hval
 obtain ⟨v0, vs0, d0, ds0, p0, q0, hargs, rfl, rfl, h0, r0⟩ := trodAll_cons hA
 obtain ⟨v1, vs1, d1, ds1, p1, q1, rfl, rfl, rfl, h1, r1⟩ := trodAll_cons r0
 obtain ⟨rfl, rfl, rfl⟩ := trodAll_nil r1
 obtain rfl : args = #[v0, v1] := by cases args; simp_all
 obtain ⟨rfl, rfl⟩ := trodVars_none hV
 obtain ⟨a0, rfl, rfl, rfl, w0⟩ := open_int Tryz.underlying3 (hval 0 3 v0 rfl rfl) h0
 obtain ⟨a1, len1, cap1, rfl⟩ := okWide_slice Tryz.underlying22 (hval 1 22 v1 rfl rfl)
 obtain ⟨z1, w1⟩ := isVals h1
 have lt1 : ∀ x ∈ p1, x.block < W.heap.size := by obtain ⟨m, hm⟩ := h1; exact DataW.trod_lt m _ _ _ hm
 clear hA0 hval0
 refine (Am.Sto.walk3_of hall a0 a1 len1 cap1 z1 W w1 (err_laid hL) (tab_laid hL)).mono fun e W' ⟨he, bel⟩ => ?_
 subst he
 exact ⟨_, rfl, _, _, _, [], _, [], hW', trodAll_mk1 (shut_bool Tryz.underlying4 _), (trodAll_cons_mk (shut_int Tryz.underlying3 w0) (trodAll_cons_mk (Below.trod laidOut (by kernel_rfl) (of_decide_eq_true (by kernel_rfl)) h1 bel lt1) trodAll_mk0)), rfl, bel.frame _, fun h => by cases h⟩
theorem j1 : (Rows.primRefusesRow.inPlace == Tryz.prog.inPlace 3) = true := by kernel_rfl
theorem j2 : (Rows.primRefusesRow.unfollowed == Tryz.prog.unfollowed 3) = true := by kernel_rfl
theorem j3 : (Rows.primRefusesRow.recurses == Tryz.prog.recurses 3) = true := by kernel_rfl
theorem j4 : (Rows.primRefusesRow.named == Tryz.prog.varsNamed 3) = true := by kernel_rfl
theorem joined : joinedFacts Tryz.prog 3 Tryz.f3 Rows.primRefusesSpec Rows.primRefusesRow = true := by
 unfold joinedFacts
 rw [j1, j2, j3, j4]
 kernel_rfl
theorem holds (hall : ∀ (op : Int) (l : List (Int × Int)), l ≠ [] → l.length ≤ 30 → Am.Sto.Answered Tryz.prog op l) : Rows.PrimRefusesSaid :=
 OpenClaim.holds_of_wide 3 Tryz.f3 rfl rfl rfl rfl rfl rfl rfl ⟨rfl, rfl, rfl, rfl, rfl⟩ rfl rfl rfl rfl rfl (by as_aux_lemma => kernel_rfl) Tryz.func3 joined
  (of_decide_eq_true (by as_aux_lemma => kernel_rfl)) (by unfold Func.isWrapper; first | (rw [if_pos (by decide +kernel)]; kernel_rfl) | (rw [if_neg (by decide +kernel)]; exact ⟨rfl, rfl⟩))
  (fun os started H enc _ => lifted hall os started H enc)
theorem noGo : (Tryz.prog.funcs.toList.all fun fn => !fn.goes) = true := by kernel_rfl
theorem noGoAt (g : FuncId) : (Tryz.prog.funcs[g]?).any Func.goes = false := by
 cases h : Tryz.prog.funcs[g]? with
 | none => rfl
 | some fn =>
  have := List.all_eq_true.1 noGo fn (Array.mem_toList_iff.2 (Array.mem_of_getElem? h))
  simpa using this
theorem noGoes (f : FuncId) : Tryz.prog.goes f = false := by
 unfold Program.goes
 rw [Bool.or_eq_false_iff]
 refine ⟨?_, ?_⟩
 ·rw [List.any_eq_false]
  intro g _
  rw [noGoAt g]
  simp
 ·rw [Bool.and_eq_false_iff]
  refine .inr ?_
  rw [← Array.any_toList, List.any_eq_false]
  intro fn hfn
  have := List.all_eq_true.1 noGo fn hfn
  simpa using this
theorem goesAny (o : Option FuncId) : o.any Tryz.prog.goes = false := by
 cases o with
 | none => rfl
 | some f => rw [Option.any_some, noGoes f]
theorem goesNot : false = Rows.primRefusesRow.goesBy Tryz.prog := by
 unfold OpenClaim.goesBy Program.goesAt Program.goesFrom
 rw [goesAny]
 rfl
end Refuses
theorem card_of (hall : ∀ (op : Int) (l : List (Int × Int)), l ≠ [] → l.length ≤ 30 → Am.Sto.Answered Tryz.prog op l) : Rows.PrimRefusesCardSaid :=
 Claim7.holds_tied_plain_at .later [] [.data, .data, .data, .data, .sentinel, .sentinel, .pinned] true (true, "ecae2bca8e89a999d223f899ad5080887fc1c2dd4a56440504861f3312c3fd5a") true (Refuses.holds hall) (fun _ h => by cases h) (by as_aux_lemma => kernel_rfl) (fun _ h => by cases h) primRefuses_row_tie rfl ⟨rfl, rfl⟩ (by as_aux_lemma => kernel_rfl) rfl
  (fun f fn hf hfn => by
   obtain rfl : f = 3 := Option.some.inj ((show Tryz.prog.funcNamed "marginalia/marginalialaw15.PrimRefuses" = some 3 by kernel_rfl).symm.trans hf) |>.symm
   obtain rfl : fn = Tryz.f3 := (Option.some.inj (Tryz.func3.symm.trans hfn)).symm
   exact ⟨by kernel_rfl, fun j t ht => by
    rw [Tryz.params3] at ht
    have hm : t ∈ [3, 22] := by simpa using Array.mem_of_getElem? ht
    have hall : ([3, 22].all fun u => !Tryz.prog.wantsStandIn u) = true := by kernel_rfl
    exact (show Tryz.prog.wantsStandIn t = false by simpa using List.all_eq_true.1 hall t hm)⟩)
  Refuses.goesNot
end Go.Proofs.YtlibahklbbachaaGreatDoor
