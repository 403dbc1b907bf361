/- The table of the primitives: the law holds, by the second meaning. -/
import Derived.Test.YtlibahklbbachaaGreatDoorTabD
set_option autoImplicit false
set_option maxRecDepth 100000
namespace Go.Am.Tab
open Go Go.Am Go.Proofs

def hits (n : List Nat) : List (List Nat) → Nat → Int → Int
  | [], _, w => w
  | x :: l, i, w => hits n l (i + 1) (hitOf x n i w)

theorem loopH (op : Int) (n : List Nat) (m N : Nat) (k : KA (Option AV)) : L7 Tryz.prog m k (N + 81) (mkT op n (-1) 0) = L7 Tryz.prog m k (N + 1) (mkT op n (hits n names 0 (-1)) 80) :=
  (loop7 op n m N k).trans (by kernel_rfl)

theorem hits_none (n : List Nat) : ∀ (l : List (List Nat)) (i : Nat) (w : Int), findF n (formsFrom l i) = none → hits n l i w = w
  | [], _, _, _ => rfl
  | x :: l, i, w, h => by
    have h : byB (eqNs x n) (some i) (findF n (bif pct x then formsFrom l (i + 1) else (37 :: x, i) :: formsFrom l (i + 1))) = none := h
    show hits n l (i + 1) (byB (eqNs x n) (.ofNat i) (byB (pct x) w (byB (eqNs (37 :: x) n) (.ofNat i) w))) = w
    cases h1 : eqNs x n with
    | true => rw [h1] at h; cases h
    | false =>
      rw [h1] at h
      cases h2 : pct x with
      | true =>
        rw [h2] at h
        exact hits_none n l (i + 1) w h
      | false =>
        rw [h2] at h
        have h : byB (eqNs (37 :: x) n) (some i) (findF n (formsFrom l (i + 1))) = none := h
        cases h3 : eqNs (37 :: x) n with
        | true => rw [h3] at h; cases h
        | false =>
          rw [h3] at h
          exact hits_none n l (i + 1) w h

theorem findF_mem (n : List Nat) : ∀ (l : List (List Nat × Nat)) (j : Nat), findF n l = some j → ∃ p ∈ l, p.1 = n
  | [], _, h => by cases h
  | (x, i) :: l, j, h => by
    simp only [findF] at h
    cases h1 : eqNs x n with
    | true => exact ⟨(x, i), by simp, eqNs_iff.1 h1⟩
    | false =>
      rw [h1] at h
      obtain ⟨p, hp, e⟩ := findF_mem n l j h
      exact ⟨p, by simp [hp], e⟩

theorem each_form : (forms.all fun p => eqI (hits p.1 names 0 (-1)) (.ofNat (kOf (findF p.1 forms)))) = true := by kernel_rfl

theorem eqI_eq : ∀ {a b : Int}, eqI a b = true → a = b
  | .ofNat a, .ofNat b, h => by simp only [eqI] at h; rw [Nat.eq_of_beq_eq_true h]
  | .negSucc a, .negSucc b, h => by simp only [eqI] at h; rw [Nat.eq_of_beq_eq_true h]
  | .ofNat _, .negSucc _, h => by cases h
  | .negSucc _, .ofNat _, h => by cases h

theorem body7 (op : Int) (n : List Nat) : bodyK Tryz.prog G0 (CF7 Tryz.prog) D7 byB Res.val? 81 Tryz.prog.funcs[7]? [.int .i64 op, .str n] St.empty = some (.bool true) := by
  rw [start7]
  have h := loopH op n 81 0 (E7 Tryz.prog 81)
  simp only [Nat.zero_add] at h
  rw [h]
  cases hf : findF n forms with
  | none =>
    rw [hits_none n names 0 (-1) hf]
    have := fin0 op n 81 0
    rw [hf, tailV_eq] at this
    exact this
  | some j =>
    obtain ⟨p, hp, e⟩ := findF_mem n forms j hf
    have h2 := eqI_eq (List.all_eq_true.1 each_form p hp)
    rw [e, hf] at h2
    rw [h2]
    have := fin1 op n j 81 0
    rw [hf, tailV_eq] at this
    refine this.trans ?_
    simp [okOf, kOf]
end Go.Am.Tab
