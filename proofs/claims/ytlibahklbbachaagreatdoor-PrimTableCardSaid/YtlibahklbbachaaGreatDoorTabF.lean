/- The table of the primitives: what is known of the functions, and the call in the model. -/
import Derived.Test.YtlibahklbbachaaGreatDoorTabE
import Derived.Laws.Externs
import Derived.RowKit3
set_option autoImplicit false
set_option maxRecDepth 100000
namespace Go.Am.Tab
open Go Go.Am Go.Proofs

theorem hm : Tryz.prog.follows .mixedOrders = true := by kernel_rfl
theorem hn_all : (Tryz.prog.funcs.toList.all fun fn => !(fn.name == "runtime.NumGoroutine")) = true := by kernel_rfl
theorem hn : NoNG Tryz.prog := fun f fn h e => by
  have := List.all_eq_true.1 hn_all fn (Array.mem_toList_iff.2 (Array.mem_of_getElem? h))
  rw [e] at this
  exact absurd this (by decide)

theorem kT : KnownOk Tryz.prog G0 XT := (KnownOk.none _ _).add (flat_known (D := D0) (m := 0) (loops := 0) (n := 0) (F := F39) hm hn G0_plain (KnownOk.none _ _) fun args x h => by
  unfold F39 at h
  split at h
  · cases h; exact ⟨rfl, flat39, run39⟩
  · cases h)

theorem isSame : ∀ (x : Value) (w : World), (callFunc 209 #[x]).run Tryz.prog w = .ok (.value x) w := fun x w => by
  have hf : Tryz.prog.funcs[209]? = some Tryz.f209 := by kernel_rfl
  rw [run_callFunc_extern hf (by kernel_rfl) (by kernel_rfl) (by kernel_rfl) (e := Extern.AbiNoEscape.same) (by kernel_rfl)]
  rfl

theorem kN : KnownOk Tryz.prog G0 XN := kT.add (same_known isSame)

theorem k19 : PureOk Tryz.prog G0 19 F19 := flat_known (D := D19) (m := 81) (loops := 0) (n := 5) (F := F19) hm hn G0_plain kT fun args x h => by
  unfold F19 at h
  split at h
  · cases h; exact ⟨rfl, rfl, (run19 _).trans (tree_num _ _)⟩
  · cases h
theorem k22 : PureOk Tryz.prog G0 22 FAr := flat_known (D := D0) (m := 0) (loops := 0) (n := 5) (F := FAr) hm hn G0_plain kT fun args x h => by
  unfold FAr at h
  split at h
  · cases h; exact ⟨rfl, rfl, ar22 _⟩
  · cases h
theorem k12 : PureOk Tryz.prog G0 12 FAr := flat_known (D := D0) (m := 0) (loops := 0) (n := 5) (F := FAr) hm hn G0_plain kT fun args x h => by
  unfold FAr at h
  split at h
  · cases h; exact ⟨rfl, rfl, ar12 _⟩
  · cases h
theorem flat_names : AV.flats (names.map .str) = true := by kernel_rfl
theorem k20 : PureOk Tryz.prog G0 20 F20 := list_known (D := D0) (m := 81) (loops := 0) (n := 5) (F := F20) hm hn G0_plain kT fun args x h => by
  unfold F20 at h
  split at h
  · cases h; exact ⟨rfl, ⟨_, _, _, rfl, flat_names⟩, run20⟩
  · cases h
theorem k21 : PureOk Tryz.prog G0 21 F21 := list_known (D := D0) (m := 81) (loops := 0) (n := 5) (F := F21) hm hn G0_plain kT fun args x h => by
  unfold F21 at h
  split at h
  · cases h; exact ⟨rfl, ⟨_, _, _, rfl, flat_names⟩, run21⟩
  · cases h
theorem k9 : PureOk Tryz.prog G0 9 F9 := flat_known (D := D0) (m := 100) (loops := 100) (n := 100) (F := F9) hm hn G0_plain kN fun args x h => by
  unfold F9 at h
  split at h
  · cases h; exact ⟨rfl, rfl, run9⟩
  · cases h

theorem kC : KnownOk Tryz.prog G0 XC := (((((kN.add k19).add k22).add k12).add k20).add k21).add k9

theorem Rel.nothing (w : World) : Rel Env.none St.empty w where
  wf := .empty
  lt r b base e := by cases e
  obj r p e := by cases e
  z b o v e := by cases e
  zap b o v r base e := by cases e
  row r o b base _ e := by cases e
  mapo r es b base _ e := by cases e
  iter r x n b base _ e := by cases e
  coh r1 r2 b b1 b2 e := by cases e
  b0 r o b base _ e := by cases e

theorem Step.kept {s' : St} {E' : Env} {w w' : World} (h : Step Env.none St.empty w E' s' w') (may : MemPlace → Prop) : w.keptBut w' may := by
  refine ⟨h.os, h.output, fun i hi => ?_⟩
  have := (World.keptBut_refl w may).2.2 i hi
  rw [h.fr i hi fun r base e => by cases e]
  exact this

theorem walk7 (op : Int) (n : ByteArray) (w : World) : Calls Tryz.prog 7 #[.int .i64 op, .string n] w fun e w' => e = .returned (.bool true) ∧ ∀ may, w.keptBut w' may := by
  have h := returns_of_K (D := D7) (m := 81) (loops := 0) (n := 5) (f := 7) (vs := [.int .i64 op, .string n]) hm hn kC (Rel.nothing w) (fun _ _ h => by cases h)
    (.cons (.int .i64 op) (.cons (.str n) .nil)) (body7 op _) (fun fn hf => by
      have : fn = Tryz.f7 := Option.some.inj (hf.symm.trans (show Tryz.prog.funcs[7]? = some Tryz.f7 by kernel_rfl))
      subst this; rfl)
  refine Calls.mono h fun e w' ⟨v', E', s', he, hs, hv⟩ => ?_
  cases hv
  exact ⟨he, Step.kept hs⟩
end Go.Am.Tab
