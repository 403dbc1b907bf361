import Derived.Test.YtlibahklbbachaaGreatDoorTx21
import Derived.Test.YtlibahklbbachaaGreatDoorTx10
import Derived.Test.YtlibahklbbachaaGreatDoorTx12
set_option autoImplicit false
set_option maxRecDepth 100000
set_option linter.unusedSimpArgs false
set_option linter.unusedVariables false
section
namespace Go.Am.Txt
open Go Go.Am Go.Proofs Go.Am.Sto
theorem lowT_app (a b : List Nat) : lowT (a ++ b) = lowT b ++ lowT a := by unfold lowT; rw [List.reverse_append, List.flatMap_append]
theorem lowT_one (x : Nat) : lowT [x] = pad9 x := by simp [lowT]
theorem low9_ok {e : Nat} (h : e < 1000000) : bound 0 (some (low9 e)) = some (e - 9) := by
  unfold low9
  rcases Nat.lt_or_ge e 9 with h9 | h9
  · have e1 : W (Int.ofNat e - 9) = Int.ofNat e - 9 := wIz (by simp only [Int.ofNat_eq_natCast]; omega) (by simp only [Int.ofNat_eq_natCast]; omega)
    rw [e1, if_pos (by simp only [Int.ofNat_eq_natCast]; omega), show e - 9 = 0 by omega]; rfl
  · have e0 : Int.ofNat e - 9 = .ofNat (e - 9) := by simp only [Int.ofNat_eq_natCast]; omega
    have e1 : W (Int.ofNat e - 9) = .ofNat (e - 9) := by rw [e0]; exact wI (by omega)
    rw [e1, if_neg (by simp only [Int.ofNat_eq_natCast]; omega)]; rfl
theorem W32n {x : Nat} (h : x < LIM) : W32' (.ofNat x) = .ofNat x := by unfold LIM at h; exact w32n (by omega)
/-! ## The pieces of a text -/
def dgs (low : List Nat) (top : Nat) : List Nat := itoaN (.ofNat top) ++ lowT low
def full (low : List Nat) (top : Nat) : List Nat := low ++ [top]
def ends_ (low : List Nat) (top i : Nat) : Nat := (itoaN (.ofNat top)).length + 9 * (low.length - i)
structure Lim (low : List Nat) (top : Nat) : Prop where
  lo : ∀ x ∈ low, x < LIM
  hi : top < LIM
  len : low.length ≤ 63
section
variable {low : List Nat} {top : Nat} (h : Lim low top)
include h
theorem dgs_len : (dgs low top).length = ends_ low top 0 := by
  unfold dgs ends_
  rw [List.length_append, lowT_len h.lo, Nat.sub_zero]
theorem top_len : 1 ≤ (itoaN (.ofNat top)).length ∧ (itoaN (.ofNat top)).length ≤ 9 := by
  refine ⟨?_, itoaN_len (inR_of h.hi)⟩
  have := itoaN_ne (inR_of h.hi)
  cases hi : itoaN (.ofNat top) with
  | nil => exact absurd hi this
  | cons a l => simp
theorem piece {i x : Nat} (hi : (full low top)[i]? = some x) : x < LIM ∧ ends_ low top i ≤ (dgs low top).length ∧ ga59 (chunk (dgs low top) (ends_ low top i) (ends_ low top i - 9)) = true ∧ av59n (chunk (dgs low top) (ends_ low top i) (ends_ low top i - 9)) = .ofNat x := by
  obtain ⟨t1, t9⟩ := top_len h
  have hle : ends_ low top i ≤ (dgs low top).length := by rw [dgs_len h]; unfold ends_; omega
  unfold full at hi
  rcases Nat.lt_or_ge i low.length with hlt | hge
  · rw [List.getElem?_append_left hlt] at hi
    have hx := h.lo x (List.mem_of_getElem? hi)
    have hsplit : low = low.take i ++ (x :: low.drop (i + 1)) := by
      rw [← drop1 hi, List.take_append_drop]
    have hd : dgs low top = (itoaN (.ofNat top) ++ lowT (low.drop (i + 1))) ++ (pad9 x ++ lowT (low.take i)) := by
      unfold dgs
      conv => lhs; rw [hsplit]
      rw [lowT_app, show x :: low.drop (i + 1) = [x] ++ low.drop (i + 1) from rfl, lowT_app, lowT_one]
      simp only [List.append_assoc]
    have hA : (itoaN (.ofNat top) ++ lowT (low.drop (i + 1))).length = ends_ low top i - 9 := by
      rw [List.length_append, lowT_len (fun y hy => h.lo y (List.mem_of_mem_drop hy)), List.length_drop]
      unfold ends_; omega
    have h9 : ends_ low top i - (ends_ low top i - 9) = 9 := by unfold ends_; omega
    have hc : chunk (dgs low top) (ends_ low top i) (ends_ low top i - 9) = pad9 x := by
      unfold chunk
      rw [h9, hd, List.drop_left' hA, List.take_left' (pad9_len hx)]
    rw [hc]
    exact ⟨hx, hle, says_pad9 hx⟩
  · have hi2 : i = low.length := by
      have := (List.getElem?_eq_some_iff.1 hi).1
      simp at this; omega
    subst hi2
    rw [List.getElem?_append_right (Nat.le_refl _), Nat.sub_self] at hi
    have hx : top = x := by simpa using hi
    subst hx
    have he : ends_ low top low.length = (itoaN (.ofNat top)).length := by unfold ends_; omega
    have hc : chunk (dgs low top) (ends_ low top low.length) (ends_ low top low.length - 9) = itoaN (.ofNat top) := by
      unfold chunk
      rw [he, show (itoaN (.ofNat top)).length - 9 = 0 by omega, List.drop_zero, Nat.sub_zero]
      unfold dgs
      exact List.take_left' rfl
    rw [hc]
    exact ⟨h.hi, hle, says_itoa h.hi⟩
end
/-! ## The loop -/
def outU (acc : List Nat) : AV := match acc with | [] => mt | _ :: r => .sl 1 0 (r.length + 1) 1 false
def stU (acc : List Nat) : St := match acc with | [] => s102a | x :: r => s102b (u32N (x :: r))
theorem outU_snoc (acc : List Nat) (x : Nat) : outU (acc ++ [x]) = .sl 1 0 (acc.length + 1) 1 false := by cases acc <;> simp [outU]
theorem stU_snoc (acc : List Nat) (x : Nat) : stU (acc ++ [x]) = s102b (u32N (acc ++ [x])) := by cases acc <;> rfl
theorem u32N_app (l m : List Nat) : u32N (l ++ m) = u32N l ++ u32N m := by simp [u32N]
theorem u32N_isU : ∀ l : List Nat, (u32N l).all isU = true
  | [] => rfl
  | _ :: l => by
    show (true && (u32N l).all isU) = true
    rw [u32N_isU l]; rfl
theorem u32N_flats : ∀ l : List Nat, AV.flats (u32N l) = true
  | [] => rfl
  | _ :: l => u32N_flats l
theorem u32N_ne {l : List Nat} (h : l ≠ []) : nonNil (u32N l) = true := by
  cases l with
  | nil => exact absurd rfl h
  | cons => rfl
abbrev L102s (P : Program) (N : Nat) : T → St → Option AV := L102 g147 ga59 av59n H0 P N
theorem last102 {low : List Nat} {top : Nat} (h : Lim low top) (h0 : top ≠ 0) (m : Bool) : (optK (fun v => ifK (cutC (low.length + 1) v) (byB (!leI (.ofNat (trimA v (low.length + 1))) 64) (some (.tup [.agg [.bool false, mt], .bool false])) (byB m (endN (!leI (.ofNat (trimA v (low.length + 1))) 0) v (u32N (full low top)) (low.length + 1)) (endN false v (u32N (full low top)) (low.length + 1)))))
    (cutN (low.length + 1) 0 (u32N (full low top)))) = num m (u32N (full low top)) (low.length + 1) false := by
  have hl : (u32N (full low top)).length = low.length + 1 := by rw [u32N_len]; simp [full]
  rw [cutN_self hl]
  have hlen := h.len
  have ht : trimA (u32N (full low top)) (low.length + 1) = low.length + 1 := by
    have hc : (u32N (full low top))[low.length]? = some (.int .u32 (.ofNat top)) := by
      rw [u32N, List.getElem?_map]
      unfold full
      simp
    simp only [trimA, hc]
    cases top with
    | zero => exact absurd rfl h0
    | succ t => rfl
  show ifK (cutC (low.length + 1) (u32N (full low top))) _ = _
  have hcut : cutC (low.length + 1) (u32N (full low top)) = true := by
    unfold cutC
    rw [Nat.ble_eq_true_of_le (by omega), u32N_isU]; rfl
  rw [hcut, ht]
  show byB (!leI (.ofNat (low.length + 1)) 64) _ _ = _
  rw [show leI (.ofNat (low.length + 1)) 64 = true from (show Nat.ble (low.length + 1) 64 = true from Nat.ble_eq_true_of_le (by omega))]
  have hend : ∀ b, endN b (u32N (full low top)) (u32N (full low top)) (low.length + 1) = num b (u32N (full low top)) (low.length + 1) false := fun b => by
    unfold endN
    rw [ht]
    show optK _ (cutN ((low.length + 1) * 1) 0 (u32N (full low top))) = _
    rw [cutN_self1 hl]
    show ifK (Nat.blt 0 (low.length + 1) && AV.flats (u32N (full low top))) _ = _
    rw [u32N_flats, show Nat.blt 0 (low.length + 1) = true from Nat.ble_eq_true_of_le (by omega)]; rfl
  rw [hend, hend]
  cases m with
  | true => rfl
  | false => rfl
theorem main102 {low : List Nat} {top : Nat} (h : Lim low top) (h0 : top ≠ 0) (m : Bool) : ∀ (n i N : Nat), i + n = low.length + 1 → n < N → ∀ e : Int, (n ≠ 0 → e = .ofNat (ends_ low top i)) → (n = 0 → e ≤ 0) →
    L102s Tryz.prog N (t102 (dgs low top) m (outU ((full low top).take i)) e) (stU ((full low top).take i)) = num m (u32N (full low top)) (low.length + 1) false
  | 0, i, N, h1, h2, e, _, he => by
    obtain ⟨M, rfl⟩ : ∃ M, N = M + 1 := ⟨N - 1, by omega⟩
    have he := he rfl
    have hfl : (full low top).length = low.length + 1 := by simp [full]
    rw [List.take_of_length_le (by rw [hfl]; omega)]
    have hs : outU (full low top) = .sl 1 0 (low.length + 1) 1 false ∧ stU (full low top) = s102b (u32N (full low top)) := ⟨outU_snoc low top, stU_snoc low top⟩
    rw [hs.1, hs.2]
    cases e with
    | negSucc z => exact (step102z _ _ _ _ _ _ _ _ _ _).trans (last102 h h0 m)
    | ofNat z =>
      have : z = 0 := by simp only [Int.ofNat_eq_natCast] at he; omega
      subst this
      exact (step102b _ _ _ _ _ _ _ _ _ _).trans (last102 h h0 m)
  | n + 1, i, N, h1, h2, e, he, _ => by
    obtain ⟨M, rfl⟩ : ∃ M, N = M + 1 := ⟨N - 1, by omega⟩
    have he := he (by omega)
    subst he
    have hfl : (full low top).length = low.length + 1 := by simp [full]
    obtain ⟨x, hx⟩ : ∃ x, (full low top)[i]? = some x := ⟨_, List.getElem?_eq_getElem (by omega)⟩
    obtain ⟨p1, p2, p3, p4⟩ := piece h hx
    obtain ⟨t1, t9⟩ := top_len h
    have hlen := h.len
    have hpos : 0 < ends_ low top i := by unfold ends_; omega
    have hbig : ends_ low top i < 1000 := by unfold ends_; omega
    have hb : (!leI (.ofNat (ends_ low top i)) 0) = true := by rw [leI_f (by simp only [Int.ofNat_eq_natCast]; omega)]; rfl
    have hbl : (Nat.ble (ends_ low top i - 9) (ends_ low top i) && Nat.ble (ends_ low top i) (dgs low top).length) = true := by
      rw [Nat.ble_eq_true_of_le (Nat.sub_le _ _), Nat.ble_eq_true_of_le p2]; rfl
    have htk : (full low top).take (i + 1) = (full low top).take i ++ [x] := by rw [List.take_add_one, hx]; rfl
    have go := main102 h h0 m n (i + 1) M (by omega) (by omega) (W (.ofNat (ends_ low top i) - 9)) (fun hn => by
      have e1 : Int.ofNat (ends_ low top i) - 9 = .ofNat (ends_ low top (i + 1)) := by
        unfold ends_; simp only [Int.ofNat_eq_natCast]; omega
      rw [e1]; exact wI (by unfold ends_; omega)) (fun hn => by
      have e2 : ends_ low top i ≤ 9 := by unfold ends_; omega
      rw [show W (Int.ofNat (ends_ low top i) - 9) = Int.ofNat (ends_ low top i) - 9 from wIz (by simp only [Int.ofNat_eq_natCast]; omega) (by simp only [Int.ofNat_eq_natCast]; omega)]
      simp only [Int.ofNat_eq_natCast]; omega)
    rw [htk, outU_snoc, stU_snoc] at go
    have hacc : ((full low top).take i).length = i := by rw [List.length_take]; omega
    cases hc : (full low top).take i with
    | nil =>
      rw [hc] at go
      refine (step102a _ _ _ _ _ _ _ _).trans ?_
      rw [hb, low9_ok (by omega)]
      show ifK (Nat.ble (ends_ low top i - 9) (ends_ low top i) && Nat.ble (ends_ low top i) (dgs low top).length) _ = _
      rw [hbl, p3, p4, W32n p1]
      exact go
    | cons a r =>
      rw [hc] at go hacc
      rw [List.length_cons] at hacc
      refine (step102b _ _ _ _ _ _ _ r.length _ _).trans ?_
      rw [hb, low9_ok (by omega)]
      show ifK (Nat.ble (ends_ low top i - 9) (ends_ low top i) && Nat.ble (ends_ low top i) (dgs low top).length) _ = _
      rw [hbl, p3, p4, W32n p1, Nat.ble_eq_true_of_le (show r.length + 1 + 1 ≤ BIG by unfold BIG; omega), cutN_self1 (C := u32N (a :: r)) (by rw [u32N_len]; rfl)]
      show ifK (newest _ _) (optK _ (cutN ((r.length + 1 + 1) * 1) 0 (u32N (a :: r) ++ u32N [x]))) = _
      rw [newest_ok, ← u32N_app, cutN_self1 (C := u32N (a :: r ++ [x])) (by rw [u32N_len]; simp)]
      show ifK (nonNil (u32N (a :: r ++ [x])) && AV.plains (u32N (a :: r ++ [x]))) _ = _
      rw [u32N_plains, u32N_ne (by simp)]
      exact go
/-! ## The whole -/
theorem eqNs_self : ∀ l : List Nat, eqNs l l = true
  | [] => rfl
  | a :: l => by
    show (bif a.beq a then eqNs l l else false) = true
    rw [Nat.beq_refl]; exact eqNs_self l
theorem rest_ok {low : List Nat} {top : Nat} (h : Lim low top) (h0 : top ≠ 0) (m : Bool) : rest102 g147 ga59 av59n H0 Tryz.prog m (dgs low top) = num m (u32N (full low top)) (low.length + 1) false := by
  have hd : (dgs low top).length ≤ 576 := by
    rw [dgs_len h]
    have := (top_len h).2
    have := h.len
    unfold ends_; omega
  have hdig : ∀ c ∈ dgs low top, 48 ≤ c ∧ c ≤ 57 := fun c hc => by
    unfold dgs at hc
    rcases List.mem_append.1 hc with hc | hc
    · exact itoa_digs top c hc
    · exact lowT_digs low c hc
  have hne : dgs low top ≠ [] := fun e => by
    unfold dgs at e
    exact itoaN_ne (inR_of h.hi) (List.append_eq_nil_iff.1 e).1
  unfold rest102
  rw [g147_of hne hdig (by omega), show leI (.ofNat (dgs low top).length) 576 = true from (show Nat.ble (dgs low top).length 576 = true from Nat.ble_eq_true_of_le hd)]
  exact main102 h h0 m (low.length + 1) 0 80 (by omega) (by have := h.len; omega) _ (fun _ => by rw [dgs_len h]) (fun h => by omega)
theorem run102 {neg : Bool} {ls : List Nat} (h : Snd neg ls) : b102 g147 ga59 av59n H0 Tryz.prog (txN neg ls) = num neg (u32N ls) ls.length ls.isEmpty := by
  rcases List.eq_nil_or_concat ls with rfl | ⟨low, top, rfl⟩
  · refine (nought102 _ _ _ _).trans ?_
    rw [h.nn rfl, show g147 [48] = true from g147_of (by simp) (fun c hc => by simp at hc; omega) (by simp)]
    rfl
  rw [List.concat_eq_append] at *
  have hL : Lim low top := ⟨fun x hx => h.lt x (by simp [hx]), h.lt top (by simp), by have := h.len; simp at this; omega⟩
  have h0 : top ≠ 0 := h.top top (by simp)
  have hlen : (low ++ [top]).length = low.length + 1 := by simp
  have hem : (low ++ [top]).isEmpty = false := by cases low <;> rfl
  rw [txN_snoc, hlen, hem]
  obtain ⟨a, l, ha, h1, h2⟩ := itoa_head h0
  have hd : dgs low top = a :: (l ++ lowT low) := by unfold dgs; rw [ha]; rfl
  cases neg with
  | false =>
    have e : sg false ++ itoaN (.ofNat top) ++ lowT low = a :: (l ++ lowT low) := by rw [ha]; rfl
    rw [e]
    refine (startP _ _ _ _ (l ++ lowT low) a h1 h2).trans ?_
    unfold both102
    rw [eqNs_self, ← hd]
    exact rest_ok hL h0 false
  | true =>
    have e : sg true ++ itoaN (.ofNat top) ++ lowT low = 45 :: a :: (l ++ lowT low) := by rw [ha]; rfl
    rw [e]
    refine (startN _ _ _ _ (l ++ lowT low) a h1 h2).trans ?_
    have ht : tl45 a (l ++ lowT low) = a :: (l ++ lowT low) := by
      unfold tl45
      rw [List.drop_one, List.tail_cons, List.take_of_length_le (by simp)]
    rw [ht, ← hd, Nat.ble_eq_true_of_le (by simp), Nat.ble_eq_true_of_le (Nat.le_refl _)]
    exact rest_ok hL h0 true
end Go.Am.Txt
end
section
namespace Go.Am.Txt
open Go Go.Am Go.Proofs Go.Am.Sto
section
variable (g : List Nat → Bool) (ng : List Nat → Bool) (ls : List Nat → List AV) (ln : List Nat → Nat) (em : List Nat → Bool)
def F102v : List AV → Option (Bool × AV)
  | [.str l] => some (g l, .tup [.agg [.bool (ng l), .lst (ls l) (ln l) (em l) (em l)], .bool true])
  | _ => none
end
def P102 (r : Option AV) : Option (Bool × List AV × Nat × Bool) := match r with
  | some (.tup [.agg [.bool b, .lst u n false false], .bool true]) => some (b, u, n, false)
  | some (.tup [.agg [.bool b, .lst u n true true], .bool true]) => some (b, u, n, true)
  | _ => none
section
variable (P : Program) (l : List Nat)
def r102 : Option (Bool × List AV × Nat × Bool) := P102 (b102 g147 ga59 av59n H0 P l)
def g102 : Bool := (r102 P l).isSome
def ng102 : Bool := match r102 P l with | some p => p.1 | none => false
def ls102 : List AV := match r102 P l with | some p => p.2.1 | none => []
def ln102 : Nat := match r102 P l with | some p => p.2.2.1 | none => 0
def em102 : Bool := match r102 P l with | some p => p.2.2.2 | none => false
end
theorem P102_is {r : Option AV} {b : Bool} {u : List AV} {n : Nat} {t : Bool} (h : P102 r = some (b, u, n, t)) : r = some (.tup [.agg [.bool b, .lst u n t t], .bool true]) := by
  unfold P102 at h
  split at h
  · cases h; rfl
  · cases h; rfl
  · cases h
theorem w102 : WOk Tryz.prog (GU H0) 102 (F102v (g102 Tryz.prog) (ng102 Tryz.prog) (ls102 Tryz.prog) (ln102 Tryz.prog) (em102 Tryz.prog)) := v_known (D := D102) (m := 80) (loops := 3) (n := 8) hm hn (GU_plain H0) kX102 kY102 fun ar x h => by
  unfold F102v at h
  split at h
  case h_2 => cases h
  rename_i l
  simp only [Option.some.injEq, Prod.mk.injEq] at h
  obtain ⟨hg, rfl⟩ := h
  unfold g102 at hg
  unfold ng102 ls102 ln102 em102
  cases hr : r102 Tryz.prog l with
  | none => rw [hr] at hg; cases hg
  | some p =>
    obtain ⟨b, u, n, t⟩ := p
    exact P102_is hr
theorem parsed {neg : Bool} {ls : List Nat} (h : Snd neg ls) : g102 Tryz.prog (txN neg ls) = true ∧ ng102 Tryz.prog (txN neg ls) = neg ∧ ls102 Tryz.prog (txN neg ls) = u32N ls ∧ ln102 Tryz.prog (txN neg ls) = ls.length ∧ em102 Tryz.prog (txN neg ls) = ls.isEmpty := by
  have hr : r102 Tryz.prog (txN neg ls) = some (neg, u32N ls, ls.length, ls.isEmpty) := by
    unfold r102
    rw [run102 h]
    unfold num P102
    cases ls.isEmpty <;> rfl
  unfold g102 ng102 ls102 ln102 em102
  rw [hr]
  exact ⟨rfl, rfl, rfl, rfl, rfl⟩
/-! ## ASCII -/
theorem enc_ascii : ∀ {l : List Nat}, (∀ c ∈ l, c < 128) → l.flatMap enc = l
  | [], _ => rfl
  | c :: l, h => by
    have hc := h c (by simp)
    rw [List.flatMap_cons, enc_ascii (l := l) fun x hx => h x (by simp [hx])]
    unfold enc
    rw [if_pos hc]; rfl
theorem okc_ascii {c : Nat} (h : c < 128) : okc c = true := by
  unfold okc
  rw [Nat.ble_eq_true_of_le (by omega), show Nat.blt c 55296 = true from Nat.ble_eq_true_of_le (by omega)]; rfl
theorem txN_ascii {neg : Bool} {ls : List Nat} : ∀ c ∈ txN neg ls, c < 128 := fun c hc => by
  rcases List.eq_nil_or_concat ls with rfl | ⟨low, top, rfl⟩
  · have : c = 48 := by simpa [txN] using hc
    omega
  rw [List.concat_eq_append, txN_snoc] at hc
  rcases List.mem_append.1 hc with hc | hc
  · rcases List.mem_append.1 hc with hc | hc
    · cases neg with
      | false => cases hc
      | true =>
        have : c = 45 := by simpa [sg] using hc
        omega
    · have := itoa_digs top c hc; omega
  · have := lowT_digs low c hc; omega
theorem txN_len {neg : Bool} {ls : List Nat} (h : Snd neg ls) : (txN neg ls).length ≤ 577 := by
  rcases List.eq_nil_or_concat ls with rfl | ⟨low, top, rfl⟩
  · simp [txN]
  rw [List.concat_eq_append] at *
  rw [txN_snoc]
  have h9 := itoaN_len (inR_of (h.lt top (by simp)))
  have hl := h.len
  rw [List.length_append, List.length_append, lowT_len fun x hx => h.lt x (by simp [hx])]
  simp only [List.length_append, List.length_singleton] at hl
  have : (sg neg).length ≤ 1 := by cases neg <;> decide
  omega
end Go.Am.Txt
end
section
namespace Go.Am.Txt
open Go Go.Am Go.Proofs Go.Am.Sto
section
variable (sn : Bool → List AV → Nat → Bool) (tx : Bool → List AV → List Nat) (ac aok : List Nat → Bool) (av : List Nat → Int)
def X36n : Known := ((Known.none.add 35 (zX (F35n sn))).add 60 (wX (F60n sn tx))).add 59 (X59 ac aok av)
def Y36n {β : Type} : KnownK β := ((KnownK.none.add 35 (zK (F35n sn))).add 60 (wK (F60n sn tx))).add 59 (K59 ac aok av)
def b36 (P : Program) (neg tt nl : Bool) (cs : List AV) (n : Nat) : Option AV := bodyY P (GU H0) (X36n sn tx ac aok av) (Y36n sn tx ac aok av) 5 8 noLive Res.fresh0? 5 P.funcs[36]? [.agg [.bool neg, .lst cs n tt nl]] St.empty
theorem t36n (neg tt nl : Bool) (cs : List AV) (n : Nat) : b36 sn tx ac aok av Tryz.prog neg tt nl cs n =
    ifK (AV.plain (.agg [.bool neg, .lst cs n tt nl])) (ifK (sn neg cs n) (byB (!leI (.ofNat n) 3) (some (.tup [.int .i64 0, .bool false])) (ifK (AV.plains [.agg [.bool neg, .lst cs n tt nl]]) (ifK (sn neg cs n) (ifK (ac (tx neg cs)) (byB (aok (tx neg cs)) (some (.tup [.int .i64 (av (tx neg cs)), .bool true])) (some (.tup [.int .i64 0, .bool false])))))))) := by kernel_rfl
end
theorem kX36n : KnownOk Tryz.prog (GU H0) (X36n sndG tx60 ac59 aok59 av59) := (((KnownOk.none _ _).add k35u).add w60).add (u2 k59r)
theorem kY36n {β : Type} : KnownKOk (X36n sndG tx60 ac59 aok59 av59) (Y36n sndG tx60 ac59 aok59 av59 : KnownK β) := addY (addY (addY (KnownKOk.none _) 35 (zK_le _)) 60 (wK_le _)) 59 (K59_le _ _ _)
theorem txN_digs {neg : Bool} {ls : List Nat} (h : Snd neg ls) : ∃ D : List UInt8, (∀ c ∈ D, isDig c) ∧ D ≠ [] ∧ (txN neg ls).map UInt8.ofNat = (sg neg).map UInt8.ofNat ++ D := by
  have dig : ∀ c : Nat, 48 ≤ c ∧ c ≤ 57 → isDig (UInt8.ofNat c) := fun c ⟨h1, h2⟩ => by
    unfold isDig
    rw [UInt8.toNat_ofNat']
    omega
  rcases List.eq_nil_or_concat ls with rfl | ⟨low, top, rfl⟩
  · have hn : neg = false := h.nn rfl
    subst hn
    exact ⟨[48], fun c hc => by simp at hc; subst hc; exact ⟨by decide, by decide⟩, by simp, rfl⟩
  · rw [List.concat_eq_append] at *
    refine ⟨(itoaN (.ofNat top) ++ lowT low).map UInt8.ofNat, fun c hc => ?_, fun e => ?_, ?_⟩
    · obtain ⟨x, hx, rfl⟩ := List.mem_map.1 hc
      rcases List.mem_append.1 hx with hx | hx
      · exact dig x (itoa_digs top x hx)
      · exact dig x (lowT_digs low x hx)
    · have e := List.map_eq_nil_iff.1 e
      rw [List.append_eq_nil_iff] at e
      exact itoaN_ne (inR_of (h.lt top (by simp))) e.1
    · rw [txN_snoc, List.append_assoc, List.map_append]
theorem ac_txN {neg : Bool} {ls : List Nat} (h : Snd neg ls) (h3 : ls.length ≤ 3) : ac59 (txN neg ls) = true := by
  obtain ⟨D, d1, d2, d3⟩ := txN_digs h
  obtain ⟨n1, n2⟩ := atoi_ns d1 d2
  have hs : NumR (atE (txN neg ls)) := by
    unfold atE
    rw [d3]
    cases neg with
    | false => exact n1
    | true => exact n2
  have hl : (txN neg ls).length ≤ 100 := by
    rcases List.eq_nil_or_concat ls with rfl | ⟨low, top, rfl⟩
    · simp [txN]
    · rw [List.concat_eq_append] at *
      have h9 := itoaN_len (inR_of (h.lt top (by simp)))
      rw [txN_snoc, List.length_append, List.length_append, lowT_len fun x hx => h.lt x (by simp [hx])]
      simp only [List.length_append, List.length_singleton] at h3
      have : (sg neg).length ≤ 1 := by cases neg <;> decide
      omega
  unfold ac59
  rw [Nat.ble_eq_true_of_le hl]
  rcases hs with ⟨v, hq⟩ | hq
  · rw [hq]; rfl
  · rw [hq]; rfl
def sbN (neg : Bool) (ls : List Nat) : Bool := Nat.ble ls.length 3 && aok59 (txN neg ls)
def svN (neg : Bool) (ls : List Nat) : Int := bif sbN neg ls then av59 (txN neg ls) else 0
section
variable (sc sb : Bool → List AV → Nat → Bool) (sv : Bool → List AV → Nat → Int)
def F36n : List AV → Option (Bool × AV)
  | [.agg [.bool g, .lst r k _ _]] => some (sc g r k, .tup [.int .i64 (sv g r k), .bool (sb g r k)])
  | _ => none
end
def sb36 (g : Bool) (r : List AV) (_ : Nat) : Bool := sbN g (limN r)
def sv36 (g : Bool) (r : List AV) (_ : Nat) : Int := svN g (limN r)
theorem k36n : ZOk Tryz.prog (GU H0) 36 (F36n sndG sb36 sv36) := z_known (D := noLive) (m := 5) (loops := 5) (n := 8) hm hn (GU_plain H0) kX36n kY36n fun ar x hF => by
  unfold F36n at hF
  split at hF
  case h_2 => cases hF
  rename_i g r k tt nl
  simp only [Option.some.injEq, Prod.mk.injEq] at hF
  obtain ⟨h1, rfl⟩ := hF
  obtain ⟨e1, e2, e3⟩ := snd_is h1
  have hp : AV.plain (.agg [.bool g, .lst r k tt nl]) = true := by
    rw [e1]
    show (true && (AV.plains (u32N (limN r)) && true)) = true
    rw [u32N_plains]; rfl
  refine (t36n sndG tx60 ac59 aok59 av59 g tt nl r k).trans ?_
  unfold sb36 sv36 svN sbN tx60
  rw [h1, hp, show AV.plains [.agg [.bool g, .lst r k tt nl]] = true by show (AV.plain _ && true) = true; rw [hp]; rfl]
  by_cases h3 : (limN r).length ≤ 3
  · rw [e2, leI_t (show Int.ofNat (limN r).length ≤ 3 by simp only [Int.ofNat_eq_natCast]; omega), ac_txN e3 h3, Nat.ble_eq_true_of_le h3]
    show byB (aok59 (txN g (limN r))) _ _ = _
    cases aok59 (txN g (limN r)) <;> rfl
  · have hb : Nat.ble (limN r).length 3 = false := by
      cases hq : Nat.ble (limN r).length 3 with
      | false => rfl
      | true => exact absurd (Nat.le_of_ble_eq_true hq) h3
    rw [e2, leI_f (show (3 : Int) < Int.ofNat (limN r).length by simp only [Int.ofNat_eq_natCast]; omega), hb]; rfl
end Go.Am.Txt
end
section
namespace Go.Am.Sto
open Go Go.Am Go.Proofs
def D41v : Live := fun i => match i with | 0 => .pack [0, 1, 7, 8] | _ => .all
def L41v (P : Program) (rounds : Nat) : T → St → Option AV := runLoop P G0 XS YS 5 8 D41v Res.val? 5000 41 (.pack [0, 1, 7, 8]) 0 rounds
abbrev stoV (nv mv : Value) (L U : Int) (os : List AV) (n : Nat) (g1 g2 : Bool) : AV := .ptrL [.int .i64 L, .int .i64 U, .lst os n g1 g2, .lit nv, .lit mv] 0
abbrev ask62 (p : AV) : AV := .fn (.func 62) [] [.ptrL [p] 0]
def tIv (l f : AV) (m : Nat) (i : Int) : T := tOf 19 [(0, l), (1, f), (7, .int .i64 (.ofNat m)), (8, .int .i64 i)]
section
variable (nv mv : Value) (L U : Int) (os cs : List AV) (m i : Nat) (g1 g2 tt nl : Bool) (o1 : AV)
theorem start41v (n : Nat) : bodyY Tryz.prog G0 XS YS 5 8 D41v Res.val? 5000 Tryz.prog.funcs[41]? [.lst cs m tt nl, ask62 (stoV nv mv L U os n g1 g2)] St.empty = L41v Tryz.prog 5000 (tIv (.lst cs m tt nl) (ask62 (stoV nv mv L U os n g1 g2)) m 0) St.empty := by kernel_rfl
theorem step41v0 (N : Nat) : L41v Tryz.prog (N + 1) (tIv (.lst cs m tt nl) (ask62 (stoV nv mv L U os 0 g1 g2)) m (.ofNat i)) St.empty =
    byB (!leI (.ofNat m) (.ofNat i)) (ifK (Nat.blt i m && nonNil cs) (opt2 (fun a b => ifK (AV.plain (stoV nv mv L U os 0 g1 g2)) (ifK (!eqI a 6) (byB (sndB 0 a b) (ifK (AV.under 0 (.lst cs m tt nl)) (ifK (AV.under 0 (ask62 (stoV nv mv L U os 0 g1 g2))) (L41v Tryz.prog N (tIv (.lst cs m tt nl) (ask62 (stoV nv mv L U os 0 g1 g2)) m (IntKind.i64.wrap (.ofNat i + 1))) St.empty))) (some (.int .i64 (.ofNat i)))))) (cutN 2 (i * 2) cs)))
      (some (.int .i64 (-1))) := by kernel_rfl
theorem step41v1 (N n : Nat) : L41v Tryz.prog (N + 1) (tIv (.lst cs m tt nl) (ask62 (stoV nv mv L U (o1 :: os) (n + 1) g1 g2)) m (.ofNat i)) St.empty =
    byB (!leI (.ofNat m) (.ofNat i)) (ifK (Nat.blt i m && nonNil cs) (opt2 (fun a b => ifK (AV.plain (stoV nv mv L U (o1 :: os) (n + 1) g1 g2)) (ifK (!eqI a 6) (byB (sndB (n + 1) a b) (ifK (AV.under 0 (.lst cs m tt nl)) (ifK (AV.under 0 (ask62 (stoV nv mv L U (o1 :: os) (n + 1) g1 g2))) (L41v Tryz.prog N (tIv (.lst cs m tt nl) (ask62 (stoV nv mv L U (o1 :: os) (n + 1) g1 g2)) m (IntKind.i64.wrap (.ofNat i + 1))) St.empty))) (some (.int .i64 (.ofNat i)))))) (cutN 2 (i * 2) cs)))
      (some (.int .i64 (-1))) := by kernel_rfl
end
theorem main41v (nv mv : Value) (L U : Int) (os : List AV) (n : Nat) (g1 g2 : Bool) (hos : n = 0 ∨ ∃ m o r, n = m + 1 ∧ os = o :: r) (l : List V2) (tt nl : Bool) (h : okAll n l = true) (hu : AV.under 0 (ask62 (stoV nv mv L U os n g1 g2)) = true) (hp : AV.plain (stoV nv mv L U os n g1 g2) = true) : ∀ (N i : Nat), l.length < i + N → i ≤ l.length → l.length ≤ 100000 →
    L41v Tryz.prog N (tIv (.lst (cellsA l) l.length tt nl) (ask62 (stoV nv mv L U os n g1 g2)) l.length (.ofNat i)) St.empty = some (.int .i64 (-1))
  | 0, i, h1, h2, _ => absurd h1 (by omega)
  | N + 1, i, h1, h2, h3 => by
    have step : L41v Tryz.prog (N + 1) (tIv (.lst (cellsA l) l.length tt nl) (ask62 (stoV nv mv L U os n g1 g2)) l.length (.ofNat i)) St.empty =
      byB (!leI (.ofNat l.length) (.ofNat i)) (ifK (Nat.blt i l.length && nonNil (cellsA l)) (opt2 (fun a b => ifK (AV.plain (stoV nv mv L U os n g1 g2)) (ifK (!eqI a 6) (byB (sndB n a b) (ifK (AV.under 0 (.lst (cellsA l) l.length tt nl)) (ifK (AV.under 0 (ask62 (stoV nv mv L U os n g1 g2))) (L41v Tryz.prog N (tIv (.lst (cellsA l) l.length tt nl) (ask62 (stoV nv mv L U os n g1 g2)) l.length (IntKind.i64.wrap (.ofNat i + 1))) St.empty))) (some (.int .i64 (.ofNat i)))))) (cutN 2 (i * 2) (cellsA l))))
      (some (.int .i64 (-1))) := by
      rcases hos with rfl | ⟨m, o, r, rfl, rfl⟩
      · exact step41v0 nv mv L U os _ _ i g1 g2 tt nl N
      · exact step41v1 nv mv L U r _ _ i g1 g2 tt nl o N m
    rw [step, leN, hu, hp]
    rcases Nat.lt_or_ge i l.length with hlt | hge
    · obtain ⟨c1, c2⟩ := cells_cut l i _ (List.getElem?_eq_getElem hlt)
      have hb : Nat.blt i l.length = true := Nat.ble_eq_true_of_le hlt
      have hb2 : Nat.ble l.length i = false := by
        cases hx : Nat.ble l.length i with
        | false => rfl
        | true => have := Nat.le_of_ble_eq_true hx; omega
      have hs : sndB n (l[i]).1 (l[i]).2 = true := List.all_eq_true.1 h _ (List.getElem_mem hlt)
      have hi : IntKind.i64.wrap (Int.ofNat i + 1) = Int.ofNat (i + 1) := by
        rw [wrap64 (by simp only [Int.ofNat_eq_natCast]; omega) (by simp only [Int.ofNat_eq_natCast]; omega)]
        rfl
      rw [hb2, c1, c2, hb]
      show ifK (!eqI (l[i]).1 6) _ = _
      rw [show (!eqI (l[i]).1 6) = true by rw [snd_no6 hs]; rfl]
      show byB (sndB n (l[i]).1 (l[i]).2) (ifK (AV.unders 0 (cellsA l)) (L41v Tryz.prog N (tIv _ _ _ (IntKind.i64.wrap (Int.ofNat i + 1))) _)) _ = _
      rw [hs, cellsA_unders, hi]
      exact main41v nv mv L U os n g1 g2 hos l tt nl h hu hp N (i + 1) (by omega) (by omega) h3
    · have : i = l.length := by omega
      subst this
      rw [Nat.ble_eq_true_of_le (Nat.le_refl _)]
      rfl
def F41v : List AV → Option (Bool × AV)
  | [.lst cs m _ _, .fn (.func 62) [] [.ptrL [.ptrL [.int .i64 L, .int .i64 U, .lst os n g1 g2, .lit nv, .lit mv] 0] 0]] => match n, os with
    | 0, os => some (isCells cs m && (Nat.ble m 4500 && (okAll 0 (ofCells cs) && (AV.under 0 (ask62 (stoV nv mv L U os 0 g1 g2)) && AV.plain (stoV nv mv L U os 0 g1 g2)))), .int .i64 (-1))
    | n + 1, o :: os => some (isCells cs m && (Nat.ble m 4500 && (okAll (n + 1) (ofCells cs) && (AV.under 0 (ask62 (stoV nv mv L U (o :: os) (n + 1) g1 g2)) && AV.plain (stoV nv mv L U (o :: os) (n + 1) g1 g2)))), .int .i64 (-1))
    | _, _ => none
  | _ => none
theorem k41v : ViewOk Tryz.prog G0 41 F41v := view_known (D := D41v) (m := 5000) (loops := 5) (n := 8) hm hn G0_plain kXS kYS fun ar x hF => by
  unfold F41v at hF
  split at hF
  · rename_i cs m tt nl L U os n g1 g2 nv mv
    have fin : ∀ (os : List AV) (n : Nat), (n = 0 ∨ ∃ m o r, n = m + 1 ∧ os = o :: r) → isCells cs m = true ∧ Nat.ble m 4500 = true ∧ okAll n (ofCells cs) = true ∧ AV.under 0 (ask62 (stoV nv mv L U os n g1 g2)) = true ∧ AV.plain (stoV nv mv L U os n g1 g2) = true →
        bodyY Tryz.prog G0 XS YS 5 8 D41v Res.val? 5000 Tryz.prog.funcs[41]? [.lst cs m tt nl, ask62 (stoV nv mv L U os n g1 g2)] St.empty = some (.int .i64 (-1)) := fun os n hos ⟨h1, h2, h5, h6, h7⟩ => by
      obtain ⟨h3, h4⟩ := isCells_eq h1
      have hm9 : m ≤ 4500 := Nat.le_of_ble_eq_true h2
      rw [start41v]
      have := main41v nv mv L U os n g1 g2 hos (ofCells cs) tt nl h5 h6 h7 5000 0 (by omega) (by omega) (by omega)
      rw [← h3, h4] at this
      exact this
    split at hF
    · simp only [Option.some.injEq, Prod.mk.injEq, Bool.and_eq_true] at hF
      obtain ⟨h1, rfl⟩ := hF
      exact ⟨rfl, fin _ 0 (.inl rfl) h1⟩
    · simp only [Option.some.injEq, Prod.mk.injEq, Bool.and_eq_true] at hF
      obtain ⟨h1, rfl⟩ := hF
      exact ⟨rfl, fin _ _ (.inr ⟨_, _, _, rfl, rfl⟩) h1⟩
    · cases hF
  · cases hF
end Go.Am.Sto
end
section
namespace Go.Am.Sto
open Go Go.Am Go.Proofs
def XS2 : Known := XS.add 41 (viewX F41v)
def YS2 {β : Type} : KnownK β := YS.add 41 (viewK F41v)
theorem kXS2 : KnownOk Tryz.prog G0 XS2 := kXS.add k41v
theorem kYS2 {β : Type} : KnownKOk XS2 (YS2 : KnownK β) := by
  intro g q hq
  unfold YS2 KnownK.add at hq
  rcases Bool.eq_false_or_eq_true (Nat.beq g 41) with hb | hb
  · rw [cond_of_true hb] at hq
    cases hq
    exact ⟨viewX F41v, by unfold XS2 Known.add; rw [cond_of_true hb], viewK_le F41v⟩
  · rw [cond_of_false hb] at hq
    obtain ⟨h, h1, h2⟩ := (kYS (β := β)) g q hq
    exact ⟨h, by unfold XS2 Known.add; rw [cond_of_false hb]; exact h1, h2⟩
abbrev zero2 : List AV := [.int .i64 0, .int .i64 0]
abbrev new2 (n : Int) : List AV := [.int .i64 7, .int .i64 n]
abbrev lastN (n : Nat) : Int := IntKind.i64.wrap ((.ofNat (n + 1 + 1)) - 1)
def stale (x n : Nat) : Bool := Nat.beq 0 (bif Nat.ble (1 + x) (1 + 0 + n * 10) then 0 else 0 + 1)
def preV (cs : List AV) (m n : Nat) (s : AV) : Bool := isCells cs m && (Nat.ble m 4500 && (okAll n (ofCells cs) && (AV.under 0 (ask62 s) && AV.plain s)))
section
variable (nv mv : Value) (L U : Int) (tt : Bool) (m : Nat) (cs : List AV) (o : Ob × Value) (rs : List (Ob × Value))
end
end Go.Am.Sto
end
section
namespace Go.Am.Sto
open Go Go.Am Go.Proofs
theorem blur_unders (nb : Nat) : ∀ rs : List (Ob × Value), AV.unders nb (blurL (objsP rs)) = true ∧ AV.plains (blurL (objsP rs)) = true
  | [] => ⟨rfl, rfl⟩
  | p :: rs => by
    obtain ⟨h1, h2⟩ := blur_unders nb rs
    exact ⟨h1, h2⟩
theorem ask_under (nv mv : Value) (L U : Int) (rs : List (Ob × Value)) (n : Nat) : AV.under 0 (ask62 (stoV nv mv L U (blurL (objsP rs)) n false false)) = true := by
  simp [AV.under, AV.unders, (blur_unders 0 rs).1]
theorem sto_plain (nv mv : Value) (L U : Int) (rs : List (Ob × Value)) (n : Nat) : AV.plain (stoV nv mv L U (blurL (objsP rs)) n false false) = true := by
  simp [AV.plain, AV.plains, (blur_unders 0 rs).2]
theorem cellsA_take (l : List V2) : takeN (l.length * 2) (cellsA l) = some (cellsA l) := cellsA_cut l l.length rfl
end Go.Am.Sto
end
section
namespace Go.Am.Sto
open Go Go.Am Go.Proofs
def runBig (P : Program) (j r q : Nat) (l : List (TypeId × List AV)) (slots : AV) : Option (AV × RowI × RowI × RowI × RowI) :=
  bodyY P G0 XS2 YS2 5 8 noLive (mkR j r q) 5 P.funcs[38]? [.ptr 0 0, .int .i64 5, slots] (St.rows l)
section
variable (nv mv : Value) (L U : Int) (tt : Bool) (m : Nat) (cs : List AV) (o : Ob × Value) (rs : List (Ob × Value))
theorem big00 : runBig Tryz.prog 0 6 4 [(66, sto0 nv mv L U)] (.lst [] 0 tt true) =
    ifK (chk1 L U) (byB (full L U 0) (some (errV 16, some (sto0 nv mv L U, 66, true), some (sto0 nv mv L U, 66, true), none, some (zero2, 29, true)))
      (ifK (chk2 U) (some (objV 0, some (sto1 nv mv L (pay U 0) 6 1, 66, true), some (sto1 nv mv L (pay U 0) 6 1, 66, true), some (.int .i64 5 :: mt :: rest8, 115, true), some (new2 0, 29, true))))) := by kernel_rfl
theorem big01 : runBig Tryz.prog 0 8 4 [(66, sto0 nv mv L U)] (.lst cs (m + 1) tt false) =
    ifK (AV.plain (.lst cs (m + 1) tt false)) (ifK (preV cs (m + 1) 0 (stoV nv mv L U [] 0 true true)) (ifK (Nat.ble (0 + (m + 1)) 1073741824) (optK (fun new => ifK (new.all AV.single)
      (ifK (chk1 L U) (byB (full L U (0 + (m + 1))) (some (errV 16, some (sto0 nv mv L U, 66, true), some (sto0 nv mv L U, 66, true), none, some (new, 29, true)))
        (ifK (chk2 U) (some (objV 0, some (sto1 nv mv L (pay U (0 + (m + 1))) 8 1, 66, true), some (sto1 nv mv L (pay U (0 + (m + 1))) 8 1, 66, true), some (.int .i64 5 :: .sl 4 0 (0 + (m + 1)) 2 false :: rest8, 115, true), some (new, 29, true))))))) (takeN ((m + 1) * 2) cs)))) := by kernel_rfl
theorem big10 : runBig Tryz.prog 1 7 5 [(66, sto1 nv mv L U 1 (rs.length + 1)), (115, objsP (o :: rs))] (.lst [] 0 tt true) =
    ifK (preV [] 0 (rs.length + 1) (stoV nv mv L U (blurL (objsP (o :: rs))) (rs.length + 1) false false)) (ifK (chk1 L U) (byB (full L U 0) (some (errV 16, some (sto1 nv mv L U 1 (rs.length + 1), 66, true), some (objsP (o :: rs), 115, true), none, some (zero2, 29, true)))
      (ifK (chk2 U) (ifK (Nat.ble (rs.length + 1 + 1) 1073741824) (optK (fun old => some (objV (lastN rs.length), some (sto1 nv mv L (pay U 0) 7 (rs.length + 1 + 1), 66, true), some (objsP (o :: rs), 115, stale (objsP (o :: rs)).length (rs.length + 1)),
        some (old ++ (.int .i64 5 :: mt :: rest8), 115, fresh1 (objsP (o :: rs)).length (rs.length + 1)), some (new2 (lastN rs.length), 29, true))) (cutN ((rs.length + 1) * 10) 0 (objsP (o :: rs)))))))) := by kernel_rfl
theorem big11 : runBig Tryz.prog 1 9 5 [(66, sto1 nv mv L U 1 (rs.length + 1)), (115, objsP (o :: rs))] (.lst cs (m + 1) tt false) =
    ifK (AV.plain (.lst cs (m + 1) tt false)) (ifK (preV cs (m + 1) (rs.length + 1) (stoV nv mv L U (blurL (objsP (o :: rs))) (rs.length + 1) false false)) (ifK (Nat.ble (0 + (m + 1)) 1073741824) (optK (fun new => ifK (new.all AV.single)
      (ifK (chk1 L U) (byB (full L U (0 + (m + 1))) (some (errV 16, some (sto1 nv mv L U 1 (rs.length + 1), 66, true), some (objsP (o :: rs), 115, true), none, some (new, 29, true)))
        (ifK (chk2 U) (ifK (Nat.ble (rs.length + 1 + 1) 1073741824) (optK (fun old => some (objV (lastN rs.length), some (sto1 nv mv L (pay U (0 + (m + 1))) 9 (rs.length + 1 + 1), 66, true), some (objsP (o :: rs), 115, stale (objsP (o :: rs)).length (rs.length + 1)),
          some (old ++ (.int .i64 5 :: .sl 5 0 (0 + (m + 1)) 2 false :: rest8), 115, fresh1 (objsP (o :: rs)).length (rs.length + 1)), some (new, 29, true))) (cutN ((rs.length + 1) * 10) 0 (objsP (o :: rs))))))))) (takeN ((m + 1) * 2) cs)))) := by kernel_rfl
end
end Go.Am.Sto
end
