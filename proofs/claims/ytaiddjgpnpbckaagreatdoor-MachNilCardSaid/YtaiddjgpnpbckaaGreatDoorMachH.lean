/- MachNil: the law holds, and the call in the model. -/
import Derived.Test.YtaiddjgpnpbckaaGreatDoorMachD
import Derived.Test.YtaiddjgpnpbckaaGreatDoorMachE
import Derived.Test.YtaiddjgpnpbckaaGreatDoorMachF
import Derived.Test.YtaiddjgpnpbckaaGreatDoorMachG
import Derived.Laws.Externs
set_option autoImplicit false
set_option maxRecDepth 100000
namespace Go.Am.Mach
open Go Go.Am Go.Proofs

theorem eqI_self : ∀ a : Int, eqI a a = true
  | .ofNat a => by simp [eqI]
  | .negSucc a => by simp [eqI]
theorem eqNs_self : ∀ a : List Nat, eqNs a a = true
  | [] => rfl
  | a :: l => by simp only [eqNs]; rw [show a.beq a = true by simp]; exact eqNs_self l

/-- a map of names to pairs of numbers -/
def Good (es : List (AV × AV)) : Prop := ∀ x ∈ es, ∃ s a b, x = (.str s, .agg [.int .i64 a, .int .i64 b])

theorem find_good (n : List Nat) : ∀ es, Good es → ∃ p, asPair (findA .str (.str n) es) = some p
  | [], _ => ⟨_, rfl⟩
  | x :: l, h => by
    obtain ⟨s, a, b, rfl⟩ := h x (by simp)
    simp only [findA, eqKey]
    cases eqNs n s with
    | true => exact ⟨_, rfl⟩
    | false => exact find_good n l fun y hy => h y (by simp [hy])

theorem put_good (n : List Nat) (t N : Int) : ∀ es, Good es → ∃ es', putA .str (.str n) (.agg [.int .i64 t, .int .i64 N]) es = some es' ∧ asPair (findA .str (.str n) es') = some (true, t, N)
  | [], _ => ⟨_, rfl, by simp only [findA, eqKey, eqNs_self]; rfl⟩
  | x :: l, h => by
    obtain ⟨s, a, b, rfl⟩ := h x (by simp)
    simp only [putA, eqKey]
    cases hs : eqNs n s with
    | true => exact ⟨_, rfl, by simp only [findA, eqKey, eqNs_self]; rfl⟩
    | false =>
      obtain ⟨es', h1, h2⟩ := put_good n t N l fun y hy => h y (by simp [hy])
      simp only [cond_false, h1]
      exact ⟨_, rfl, by simp only [findA, eqKey, hs, cond_false]; exact h2⟩

theorem es_good : ∀ (l : List (List Nat)) (i : Nat), Good (esFrom l i)
  | [], _ => fun x hx => by simp [esFrom] at hx
  | y :: l, i => fun x hx => by
    unfold esFrom at hx
    rcases List.mem_cons.1 hx with rfl | hx
    · exact ⟨_, _, _, rfl⟩
    · split at hx
      · exact es_good l (i + 1) x hx
      · rcases List.mem_cons.1 hx with rfl | hx
        · exact ⟨_, _, _, rfl⟩
        · exact es_good l (i + 1) x hx
theorem es0_good : Good es0 := es_good _ _

theorem tree_yes (n : List Nat) (t N : Int) (g : Nat → Nat → Bool × Int × Int → Option AV) (h1 : ∀ p, g 1 1 p = yes) (h0 : g 0 0 (true, t, N) = yes) (h2 : ∀ p, g 2 2 p = yes) : tree n t N g = yes := by
  obtain ⟨p, hp⟩ := find_good n es0 es0_good
  obtain ⟨es', he, hf⟩ := put_good n t N es0 es0_good
  unfold tree wt lk
  cases long n with
  | true => show optK (g 1 1) _ = _; rw [hp]; exact h1 p
  | false =>
    cases sndV t N with
    | true =>
      show optK _ (putA .str (.str n) (.agg [.int .i64 t, .int .i64 N]) es0) = _
      rw [he]
      show optK (g 0 0) _ = _
      rw [hf]
      exact h0
    | false => show optK (g 2 2) _ = _; rw [hp]; exact h2 p

theorem both_yes (k : Nat) (f : Nat → Nat → Option AV) (h : ∀ j, f j j = yes) : both k f = yes := by
  unfold both
  cases ho : over k with
  | true => exact h 1
  | false =>
    have hle : ((k : Int) + 2) ≤ 16777216 := by
      unfold over at ho
      rw [leI_iff] at ho
      have : decide ((Int.ofNat (k + 2)) ≤ 16777216) = true := by simpa using ho
      have := of_decide_eq_true this
      simpa using this
    have hw : IntKind.i64.wrap (.ofNat (k + 2) - 1) = (k : Int) + 1 := by
      have e : IntKind.i64.wrap (.ofNat (k + 2) - 1) = if (Int.ofNat (k + 2) - 1) % 18446744073709551616 ≥ 9223372036854775808 then (Int.ofNat (k + 2) - 1) % 18446744073709551616 - 18446744073709551616 else (Int.ofNat (k + 2) - 1) % 18446744073709551616 := by
        unfold IntKind.wrap
        simp [IntKind.signed, IntKind.bits]
      rw [e]
      have : Int.ofNat (k + 2) = (k : Int) + 2 := by simp
      rw [this]
      omega
    have hs : spent k = false := by
      unfold spent
      rw [hw]
      exact leI_f (by omega)
    rw [hs]
    exact h 0

theorem fin_11 (t N : Int) (j : Nat) (p : Bool × Int × Int) : fin 1 1 t N j j p = yes := by show yn (Nat.beq j j) = yes; simp [yn, yes]
theorem fin_22 (t N : Int) (j : Nat) (p : Bool × Int × Int) : fin 2 2 t N j j p = yes := by show yn (Nat.beq j j) = yes; simp [yn, yes]
theorem fin_00 (t N : Int) (j : Nat) : fin 0 0 t N j j (true, t, N) = yes := by
  show byB (eqP (true, t, N) t N) (yn (Nat.beq j j)) no = yes
  unfold eqP
  rw [eqI_self, eqI_self]
  simp [yn, yes]

theorem law_yes : ∀ (n : List Nat) (t N fuel : Int), law Tryz.prog n t N fuel = yes
  | [], t, N, .negSucc m => neg0 t N m
  | _ :: _, t, N, .negSucc m => (neg1 _ _ t N m).trans (tree_yes _ t N _ (fin_11 t N 1) (fin_00 t N 1) (fin_22 t N 1))
  | [], t, N, .ofNat 0 => none0 t N
  | _ :: _, t, N, .ofNat 0 => (none1 _ _ t N).trans (tree_yes _ t N _ (fin_11 t N 15) (fin_00 t N 15) (fin_22 t N 15))
  | [], t, N, .ofNat 1 => one0 t N
  | _ :: _, t, N, .ofNat 1 => (one1 _ _ t N).trans (tree_yes _ t N _ (fin_11 t N 15) (fin_00 t N 15) (fin_22 t N 15))
  | [], t, N, .ofNat (k + 2) => (more0 t N k).trans (both_yes k _ fun j => by simp [yn, yes])
  | _ :: _, t, N, .ofNat (k + 2) => (more1 _ _ t N k).trans (tree_yes _ t N _ (fun p => both_yes k _ fun j => fin_11 t N j p) (both_yes k _ fun j => fin_00 t N j) (fun p => both_yes k _ fun j => fin_22 t N j p))

/-! ## The call -/
theorem isSame : ∀ (x : Value) (w : World), (callFunc 353 #[x]).run Tryz.prog w = .ok (.value x) w := fun x w => by
  have hf : Tryz.prog.funcs[353]? = some Tryz.f353 := by kernel_rfl
  rw [run_callFunc_extern hf (by kernel_rfl) (by kernel_rfl) (by kernel_rfl) (e := Extern.AbiNoEscape.same) (by kernel_rfl)]
  rfl
theorem kX0 : KnownOk Tryz.prog G0 X0 := (KnownOk.none _ _).add (same_known isSame)
theorem k13 : PureOk Tryz.prog G0 13 F13 := flat_known (D := noLive) (m := 100) (loops := 100) (n := 100) (F := F13) hm hn G0_plain kX0 fun args x h => by
  unfold F13 at h
  split at h
  · cases h; exact ⟨rfl, rfl, run13⟩
  · cases h
theorem kX1 : KnownOk Tryz.prog G0 X1 := ((kX0.add k13).add k26).add k18

theorem walk3 (n : ByteArray) (t N fuel : Int) (w : World) : Calls Tryz.prog 3 #[.string n, .agg #[.int .i64 t, .int .i64 N], .int .i64 fuel] w fun e w' => e = .returned (.bool true) ∧ ∀ may, w.keptBut w' may := by
  have h := returns_of_K (D := noLive) (m := 0) (loops := 100) (n := 100) (f := 3) (vs := [.string n, .agg #[.int .i64 t, .int .i64 N], .int .i64 fuel]) hm hn kX1 (Rel.start (fun _ _ _ _ => False) w) ⟨fun _ _ h => (by cases h), rfl⟩
    (.cons (.str n) (.cons (.agg (.cons (.int .i64 t) (.cons (.int .i64 N) .nil))) (.cons (.int .i64 fuel) .nil))) (law_yes _ t N fuel) (fun fn hf => by
      have : fn = Tryz.f3 := Option.some.inj (hf.symm.trans (show Tryz.prog.funcs[3]? = some Tryz.f3 by kernel_rfl))
      subst this; rfl)
  refine Calls.mono h fun e w' ⟨v', E', s', he, hs, hv⟩ => ?_
  cases hv
  exact ⟨he, Step.kept hs⟩
end Go.Am.Mach
