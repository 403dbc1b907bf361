import Derived.Test.YtlibahklbbachaaGreatDoorTx32
import Derived.Test.YtlibahklbbachaaGreatDoorTx26
import Derived.Test.YtlibahklbbachaaGreatDoorTx30
set_option autoImplicit false
set_option maxRecDepth 100000
set_option linter.unusedSimpArgs false
set_option linter.unusedVariables false
section
namespace Go.Am.Txt
open Go Go.Am Go.Proofs Go.Am.Sto
theorem cutX_pos {n es off : Nat} {v : List AV} (h : 0 < n) : Go.Am.cutX n es off v = cutN (n * es) off v := by
  unfold Go.Am.cutX
  rw [beq_false_of_ne (show n ≠ 0 by omega)]; rfl
section
variable {d : Hid} {a b : Int} {K0 : Option R} {K1 : List AV → Option R} {l : List Nat}
theorem appT_nil (h : strO d a b = true) (e : slotsO d a b = []) : appT d a b K0 K1 = K0 := (strK_ok h _ _).trans (by rw [e]; rfl)
theorem appT_cons (h : strO d a b = true) (e : slotsO d a b = chV l) (h0 : l ≠ []) (hl : l.length ≤ 4096) : appT d a b K0 K1 = K1 (cellsA (chV l)) := by
  refine (strK_ok h _ _).trans ?_
  rw [e, chV_length, Nat.zero_add, Nat.ble_eq_true_of_le (show l.length ≤ 1073741824 by omega), cellsA_cut (chV l) l.length (chV_length l)]
  show ifK ((cellsA (chV l)).all AV.single) (byB (Nat.beq l.length 0) _ (optK _ (Go.Am.cutX l.length 2 0 (cellsA (chV l))))) = _
  have hp : 0 < l.length := List.length_pos_iff.2 h0
  rw [cellsA_single, beq_false_of_ne (show l.length ≠ 0 by omega), cutX_pos hp, cellsA_cut (chV l) l.length (chV_length l)]
  show ifK (nonNil (cellsA (chV l)) && AV.plains (cellsA (chV l))) _ = _
  rw [cells_ne h0, cellsA_plains, ifK_t (c := true && true) rfl]
end
theorem cat47 (d : Hid) (a b c e : Int) (tt : Bool) {l m : List Nat} (h1 : strO d a b = true) (h2 : strO d c e = true) (e1 : slotsO d a b = chV l) (e2 : slotsO d c e = chV m) (o1 : ∀ x ∈ l, okc x = true) (o2 : ∀ x ∈ m, okc x = true) (hl : (l ++ m).length ≤ 4096) :
    b47 Tryz.prog d (u22 a b c e tt) 42 = madeT d (chV (l ++ m)) := by
  have hll : l.length ≤ 4096 := by rw [List.length_append] at hl; omega
  have hlm : m.length ≤ 4096 := by rw [List.length_append] at hl; omega
  have ok : ∀ x ∈ l ++ m, okc x = true := fun x hx => (List.mem_append.1 hx).elim (o1 x) (o2 x)
  have fin : ∀ (q : List Nat) (j : Nat), q.length = j + 1 → (∀ x ∈ q, okc x = true) → q.length ≤ 4096 → L47 Tryz.prog (47 + 1) (t47 (u22 a b c e tt) (.sl 2 0 (j + 1) 2 false) 2 2) (stW d (cellsA (chV q))) = madeT d (chV q) := fun q j hq ho hq4 => by
    rw [end47b, leI_t (show Int.ofNat (j + 1) ≤ 4096 by simp only [Int.ofNat_eq_natCast]; omega)]
    show optK _ _ = _
    rw [cellsA_cut (chV q) (j + 1) (by rw [chV_length, hq])]
    show ifK (Nat.blt 0 (j + 1) && AV.plains (cellsA (chV q))) _ = _
    rw [cellsA_plains, show Nat.blt 0 (j + 1) = true from Nat.ble_eq_true_of_le (by omega)]
    have := mkT_ok d ho (by omega)
    rw [hq] at this
    exact this
  rw [start47]
  show L47 Tryz.prog (49 + 1) _ _ = _
  rw [step47a]
  cases l with
  | nil =>
    refine (appT_nil h1 e1).trans ?_
    show L47 Tryz.prog (48 + 1) _ _ = _
    rw [step47b]
    cases m with
    | nil =>
      refine (appT_nil h2 e2).trans ?_
      exact end47a d a b c e tt 47
    | cons x m =>
      refine (appT_cons h2 e2 (by simp) hlm).trans ?_
      rw [e2, chV_length, Nat.zero_add]
      exact fin (x :: m) m.length rfl o2 hlm
  | cons x l =>
    refine (appT_cons h1 e1 (by simp) hll).trans ?_
    rw [e1, chV_length, Nat.zero_add]
    show L47 Tryz.prog (48 + 1) (t47 (u22 a b c e tt) (.sl 2 0 (l.length + 1) 2 false) 2 1) _ = _
    rw [step47c]
    refine (strK_ok h2 _ _).trans ?_
    rw [e2, chV_length, Nat.ble_eq_true_of_le (show l.length + 1 + m.length ≤ 1073741824 by simp only [List.length_append, List.length_cons] at hl; omega), cellsA_cut (chV m) m.length (chV_length m)]
    show ifK ((cellsA (chV m)).all AV.single) (byB (Nat.beq m.length 0) _ _) = _
    rw [cellsA_single, ifK_t (c := true) rfl]
    have hcut : cutN ((l.length + 1) * 2) 0 (cellsA (chV (x :: l))) = some (cellsA (chV (x :: l))) := cellsA_cut (chV (x :: l)) (l.length + 1) (by rw [chV_length]; rfl)
    cases m with
    | nil =>
      rw [byB_t (c := Nat.beq ([] : List Nat).length 0) rfl, hcut]
      show ifK (nonNil (cellsA (chV (x :: l))) && AV.plains (cellsA (chV (x :: l)))) _ = _
      rw [cellsA_plains, cells_ne (by simp), List.append_nil, ifK_t (c := true && true) rfl]
      exact fin (x :: l) l.length rfl o1 hll
    | cons y m =>
      rw [byB_f (c := Nat.beq (y :: m).length 0) rfl, hcut]
      show ifK (newest _ _) (optK _ (Go.Am.cutX (l.length + 1 + (y :: m).length) 2 0 (cellsA (chV (x :: l)) ++ cellsA (chV (y :: m))))) = _
      rw [newest_ok, ← cellsA_append, ← chV_app, cutX_pos (by omega), cellsA_cut (chV (x :: l ++ y :: m)) (l.length + 1 + (y :: m).length) (by rw [chV_length, List.length_append]; rfl)]
      show ifK (nonNil (cellsA (chV (x :: l ++ y :: m))) && AV.plains (cellsA (chV (x :: l ++ y :: m)))) _ = _
      rw [cellsA_plains, cells_ne (by simp), ifK_t (c := true && true) rfl, show l.length + 1 + (y :: m).length = (l.length + (y :: m).length) + 1 by omega]
      exact fin (x :: l ++ y :: m) (l.length + (y :: m).length) (by simp only [List.length_append, List.length_cons]; omega) ok hl
abbrev catD (d : Hid) (a b c e : Int) : (V2 × Int) × Hid := mkOf d 4 (slotsO d a b ++ slotsO d c e)
def F47 (d : Hid) : List AV → Option (Bool × AV × Hid)
  | [.ptrL [.hptr 0, .lst [.int .i64 a, .int .i64 b, .int .i64 c, .int .i64 e] 2 _ false] 0, .int .i64 (.ofNat 42)] =>
    some (strO d a b && (strO d c e && (Nat.ble (slotsO d a b ++ slotsO d c e).length 4096 && eqI (catD d a b c e).1.2 0)), val (catD d a b c e).1.1.1 (catD d a b c e).1.1.2, (catD d a b c e).2)
  | _ => none
theorem kX47 : KnownOk Tryz.prog (GU H0) X47 := ((((KnownOk.none _ _).add (u0 k83)).add (u0 k93)).add (w41c H0)).add (u0 k38t)
theorem kY47 {β : Type} : KnownKOk X47 (Y47 : KnownK β) := addK (addY (addK (addK (KnownKOk.none _) 83 F83) 93 F93) 41 (wK_le _)) 38 F38t
theorem k47 : MethOk Tryz.prog (GU H0) 47 F47 := meth_known (D := D47) (m := 50) (loops := 5) (n := 8) hm hn (GU_plain H0) kX47 kY47 fun d ar x d' hF => by
  unfold F47 at hF
  split at hF
  case h_2 => cases hF
  rename_i a b c e tt
  simp only [Option.some.injEq, Prod.mk.injEq, Bool.and_eq_true] at hF
  obtain ⟨⟨h1, h2, h3, h4⟩, rfl, rfl⟩ := hF
  have g1 := h1; have g2 := h2
  unfold strO at g1 g2
  rw [Bool.and_eq_true] at g1 g2
  obtain ⟨q1, q2, _⟩ := isCh_eq g1.2
  obtain ⟨r1, r2, _⟩ := isCh_eq g2.2
  have hl : (chOf (slotsO d a b) ++ chOf (slotsO d c e)).length ≤ 4096 := by
    have := Nat.le_of_ble_eq_true h3
    rw [List.length_append] at this ⊢
    unfold chOf
    rw [List.length_map, List.length_map]; exact this
  refine (cat47 d a b c e tt h1 h2 q1 r1 q2 r2 hl).trans ?_
  rw [chV_app, ← q1, ← r1]
  exact madeT_ok h4
end Go.Am.Txt
end
section
namespace Go.Am.Txt
open Go Go.Am Go.Proofs Go.Am.Sto
def stAD (d : Hid) (bs : List Nat) (acc : List Nat) : St := match acc with | [] => st0D d bs | c :: r => stD d bs (cellsA (chV (c :: r)))
theorem stAD_snoc (d : Hid) (bs : List Nat) (acc : List Nat) (c : Nat) : stAD d bs (acc ++ [c]) = stD d bs (cellsA (chV (acc ++ [c]))) := by cases acc <;> rfl
section
variable (g : List AV → Nat → Bool) (ls : List AV → List AV) (ln : List AV → Nat) (e : List AV → Bool)
theorem main34 (d : Hid) (bs : List Nat) (tt nl : Bool) (l : List Nat) (hok : ∀ c ∈ l, okc c = true) (hlen : l.length ≤ 4096) : ∀ (N i : Nat) (acc : List Nat), acc = l.take i → l.length < i + N → i ≤ l.length →
    L34 g ls ln e Tryz.prog N (t34 (outW 4 acc) (.lst (intsN l) l.length tt nl) l.length (.ofNat i)) (stAD d bs acc) = madeT d (chV l)
  | 0, i, _, _, h1, h2 => absurd h1 (by omega)
  | N + 1, i, acc, hacc, h1, h2 => by
    rcases Nat.lt_or_ge i l.length with hlt | hge
    · have hb : (!leI (.ofNat l.length) (.ofNat i)) = true := by rw [leI_f (by simp only [Int.ofNat_eq_natCast]; omega)]; rfl
      have hne : l ≠ [] := fun h => by rw [h] at hlt; cases hlt
      have hbl : (Nat.blt i l.length && nonNil (intsN l)) = true := by rw [intsN_ne hne, show Nat.blt i l.length = true from Nat.ble_eq_true_of_le hlt]; rfl
      have hul : AV.under 4 (.lst (intsN l) l.length tt nl) = true := intsN_unders _ _
      have ew : IntKind.i64.wrap (Int.ofNat i + 1) = .ofNat (i + 1) := wI (n := i + 1) (by omega)
      have hta : acc ++ [l[i]] = l.take (i + 1) := by rw [hacc, List.take_add_one, List.getElem?_eq_getElem hlt]; rfl
      have hal : acc.length = i := by rw [hacc, List.length_take]; omega
      have go := main34 d bs tt nl l hok hlen N (i + 1) (acc ++ [l[i]]) hta (by omega) (by omega)
      rw [outW_snoc, stAD_snoc] at go
      cases acc with
      | nil =>
        refine (step34a _ _ _ _ _ _ _ _ _ _ _ _).trans ?_
        rw [hb, hbl, ints_at l i hlt]
        show ifK (AV.under 4 (.lst _ _ _ _)) _ = _
        rw [hul, ew]
        exact go
      | cons x r =>
        refine (step34b _ _ _ _ _ _ _ _ _ _ _ _ r.length _).trans ?_
        rw [List.length_cons] at hal
        rw [hb, hbl, ints_at l i hlt]
        show ifK (Nat.ble (r.length + 1 + 1) 1073741824) _ = _
        rw [Nat.ble_eq_true_of_le (show r.length + 1 + 1 ≤ 1073741824 by omega), cellsA_cut (chV (x :: r)) (r.length + 1) (by rw [chV_length]; rfl)]
        show ifK (newest _ _) (optK _ (cutN ((r.length + 1 + 1) * 2) 0 (cellsA (chV (x :: r)) ++ cellsA (chV [l[i]])))) = _
        rw [newest_ok, ← cellsA_append, ← chV_app, cellsA_cut (chV (x :: r ++ [l[i]])) (r.length + 1 + 1) (by rw [chV_length]; simp)]
        show ifK (nonNil (cellsA (chV (x :: r ++ [l[i]]))) && AV.plains (cellsA (chV (x :: r ++ [l[i]])))) _ = _
        rw [cellsA_plains, cells_ne (by simp)]
        show ifK (AV.under 4 (.lst _ _ _ _)) _ = _
        rw [hul, ew]
        exact go
    · have hi : i = l.length := by omega
      subst hi
      have hb : (!leI (.ofNat l.length) (.ofNat l.length)) = false := by rw [leI_t (Int.le_refl _)]; rfl
      rw [List.take_length] at hacc
      subst hacc
      cases acc with
      | nil => exact (step34a _ _ _ _ _ _ _ _ _ _ _ _).trans (by rw [hb]; rfl)
      | cons x r =>
        rw [List.length_cons] at hlen
        refine (step34b _ _ _ _ _ _ _ _ _ _ _ _ r.length _).trans ?_
        rw [hb]
        show optK _ _ = _
        rw [cellsA_cut (chV (x :: r)) (r.length + 1) (by rw [chV_length]; rfl)]
        show ifK (Nat.blt 0 (r.length + 1) && AV.plains (cellsA (chV (x :: r)))) _ = _
        rw [cellsA_plains, show Nat.blt 0 (r.length + 1) = true from Nat.ble_eq_true_of_le (by omega)]
        exact mkT_ok d hok (by simp only [List.length_cons]; omega)
end
def F34 (d : Hid) : List AV → Option (Bool × AV × Hid)
  | [.agg [.hptr 0], .agg [.int .i64 5, .str bs, .bool false, .lst [] 0 true true, .lst [] 0 true true, .int .i64 0]] => some (okS d bs, val (mkS d bs).1.1.1 (mkS d bs).1.1.2, (mkS d bs).2)
  | _ => none
theorem k34 : MethOk Tryz.prog (GU H0) 34 F34 := meth_known (D := D34) (m := 2500) (loops := 5) (n := 8) hm hn (GU_plain H0) kX95 kY95 fun d ar x d' hF => by
  unfold F34 at hF
  split at hF
  case h_2 => cases hF
  rename_i bs
  simp only [Option.some.injEq, Prod.mk.injEq] at hF
  obtain ⟨h, rfl, rfl⟩ := hF
  unfold okS at h
  rw [Bool.and_eq_true] at h
  obtain ⟨h1, h2⟩ := h
  obtain ⟨q1, q2, q3, q4⟩ := text_list h1
  refine (start34 isText ls55 ln55 em55 d bs).trans ?_
  rw [h1, show AV.plains [.lst (bytesA bs) bs.length false false] = true by show (AV.plains (bytesA bs) && true) = true; rw [bytesA_plains]; rfl]
  show L34 isText ls55 ln55 em55 Tryz.prog 2500 (t34 mt (.lst (ls55 (bytesA bs)) (ln55 (bytesA bs)) _ _) (ln55 (bytesA bs)) 0) (st0D d bs) = _
  rw [q2, q3]
  have hlen : (chsT bs).length < 2000 := by
    obtain ⟨_, _, h3, h4⟩ := text_is h1
    have := flat_len (chsOf (bytesA bs))
    unfold chsT
    omega
  exact (main34 _ _ _ _ d bs _ _ (chsT bs) q1 q4 2500 0 [] rfl (by omega) (by omega)).trans (madeT_ok h2)
end Go.Am.Txt
end
section
namespace Go.Am.Txt
open Go Go.Am Go.Proofs Go.Am.Sto
section
variable (g : List AV → Nat → Bool) (ls : List AV → List AV) (ln : List AV → Nat) (e : List AV → Bool) (c : Hid → List Nat → Bool) (t n : Hid → List Nat → Int) (D : Hid → List Nat → Hid)
def F34w (d : Hid) : List AV → Option (Bool × AV × Hid)
  | [.agg [.hptr 0], .agg [.int .i64 5, .str bs, .bool false, .lst [] 0 true true, .lst [] 0 true true, .int .i64 0]] => some (c d bs, val (t d bs) (n d bs), D d bs)
  | _ => none
def X17 : Known := (Known.none.add 55 (wX (F55v g ls ln e))).add 34 (methX (F34w c t n D))
def Y17 {β : Type} : KnownK β := (KnownK.none.add 55 (wK (F55v g ls ln e))).add 34 (methK (F34w c t n D))
theorem t17 (d : Hid) (bs : List Nat) : bodyY Tryz.prog (GU H0) (X17 g ls ln e c t n D) (Y17 g ls ln e c t n D) 5 8 noLive Res.meth? 5 Tryz.prog.funcs[17]? [.hptr 0, datS bs] (St.one d) =
    ifK (AV.plains [.lst (bytesA bs) bs.length false false]) (ifK (g (bytesA bs) bs.length) (byB (leI (.ofNat (ln (bytesA bs))) 4096) (ifK (c d bs) (some (getV ((t d bs, n d bs), 0), D d bs))) (some (getV ((0, 0), 2), d)))) := by kernel_rfl
end
def F17 (d : Hid) : List AV → Option (Bool × AV × Hid)
  | [.hptr 0, .agg [.int .i64 5, .str bs, .bool false, .lst [] 0 true true, .lst [] 0 true true, .int .i64 0]] => some (okS d bs, getV ((mkS d bs).1.1, 0), (mkS d bs).2)
  | _ => none
abbrev cS (d : Hid) (bs : List Nat) : Bool := okS d bs
abbrev tS' (d : Hid) (bs : List Nat) : Int := (mkS d bs).1.1.1
abbrev nS' (d : Hid) (bs : List Nat) : Int := (mkS d bs).1.1.2
abbrev DS (d : Hid) (bs : List Nat) : Hid := (mkS d bs).2
theorem F34_eq : F34w cS tS' nS' DS = F34 := by
  funext d ar
  unfold F34w F34
  rfl
theorem kX17 : KnownOk Tryz.prog (GU H0) (X17 isText ls55 ln55 em55 cS tS' nS' DS) := ((KnownOk.none _ _).add (w55 H0)).add (by rw [F34_eq]; exact k34)
theorem kY17 {β : Type} : KnownKOk (X17 isText ls55 ln55 em55 cS tS' nS' DS) (Y17 isText ls55 ln55 em55 cS tS' nS' DS : KnownK β) := addK (addY (KnownKOk.none _) 55 (wK_le _)) 34 _
theorem k17 : MethOk Tryz.prog (GU H0) 17 F17 := meth_known (D := noLive) (m := 5) (loops := 5) (n := 8) hm hn (GU_plain H0) kX17 kY17 fun d ar x d' hF => by
  unfold F17 at hF
  split at hF
  case h_2 => cases hF
  rename_i bs
  simp only [Option.some.injEq, Prod.mk.injEq] at hF
  obtain ⟨h, rfl, rfl⟩ := hF
  have h0 := h
  unfold okS at h
  rw [Bool.and_eq_true] at h
  obtain ⟨h1, h2⟩ := h
  obtain ⟨q1, q2, q3, q4⟩ := text_list h1
  refine (t17 isText ls55 ln55 em55 cS tS' nS' DS d bs).trans ?_
  rw [h1, show AV.plains [.lst (bytesA bs) bs.length false false] = true by show (AV.plains (bytesA bs) && true) = true; rw [bytesA_plains]; rfl, q3, leI_t (show Int.ofNat (chsT bs).length ≤ 4096 by simp only [Int.ofNat_eq_natCast]; omega)]
  show ifK (okS d bs) _ = _
  rw [h0]; rfl
end Go.Am.Txt
end
section
namespace Go.Am.Txt
open Go Go.Am Go.Proofs Go.Am.Sto
theorem eqI_of : ∀ {a b : Int}, eqI a b = true → a = b
  | .ofNat a, .ofNat b, h => by rw [Nat.eq_of_beq_eq_true (show a.beq b = true from h)]
  | .negSucc a, .negSucc b, h => by rw [Nat.eq_of_beq_eq_true (show a.beq b = true from h)]
  | .ofNat _, .negSucc _, h => by cases h
  | .negSucc _, .ofNat _, h => by cases h
/-! ## What is called -/
abbrev cWs (d : Hid) (bs : List Nat) : Bool := okS d bs
abbrev tWs (d : Hid) (bs : List Nat) : Int := (mkS d bs).1.1.1
abbrev nWs (d : Hid) (bs : List Nat) : Int := (mkS d bs).1.1.2
abbrev DWs (d : Hid) (bs : List Nat) : Hid := (mkS d bs).2
def cYs (d : Hid) (nm : List Nat) : Bool := okName nm && (match d.names with | [] => true | [k] => eqNs nm (byt k) | _ => false)
abbrev tYs (_ : Hid) (_ : List Nat) : Int := 6
abbrev nYs (_ : Hid) (_ : List Nat) : Int := 0
def DYs (d : Hid) (nm : List Nat) : Hid := match d.names with | [] => { d with names := [nm] } | _ => d
def cNs (d : Hid) (a b : Int) : Bool := eqI a 6 && (eqI b 0 && (match d.names with | [_] => true | _ => false))
def xNs (d : Hid) (_ _ : Int) : List Nat := match d.names with | [k] => byt k | _ => []
abbrev cIs (_ : Hid) (g : Bool) (r : List AV) (k : Nat) : Bool := sndG g r k
abbrev tIs (d : Hid) (g : Bool) (r : List AV) : Int := (intO d g (limN r)).1.1.1
abbrev nIs (d : Hid) (g : Bool) (r : List AV) : Int := (intO d g (limN r)).1.1.2
abbrev eIs (d : Hid) (g : Bool) (r : List AV) : Int := (intO d g (limN r)).1.2
abbrev DIs (d : Hid) (g : Bool) (r : List AV) : Hid := (intO d g (limN r)).2
def numC (d : Hid) (a b : Int) : Bool := bif eqI a 4 then small b else eqI a 7 && (eqI (kindOf d.rows 7 b) 5 && bigQ (slotsO d 7 b))
def numG (d : Hid) (a b : Int) : Bool := bif eqI a 4 then decide (b < 0) else gO (slotsO d 7 b)
def numL (d : Hid) (a b : Int) : List Nat := bif eqI a 4 then (limbs b.natAbs).map Int.toNat else lsO (slotsO d 7 b)
abbrev lBs (d : Hid) (a b : Int) : List AV := u32N (numL d a b)
abbrev mBs (d : Hid) (a b : Int) : Nat := (numL d a b).length
abbrev zBs (d : Hid) (a b : Int) : Bool := (numL d a b).isEmpty
theorem limbs_back (u : Nat) : u32N ((limbs u).map Int.toNat) = (limbs u).map (AV.int .u32) ∧ ((limbs u).map Int.toNat).length = (limbs u).length ∧ ((limbs u).map Int.toNat).isEmpty = (limbs u).isEmpty := by
  unfold limbs
  by_cases h0 : u = 0
  · rw [if_pos h0]; exact ⟨rfl, rfl, rfl⟩
  · rw [if_neg h0]
    by_cases h1 : u < 1000000000
    · rw [if_pos h1]; exact ⟨rfl, rfl, rfl⟩
    · rw [if_neg h1]; exact ⟨rfl, rfl, rfl⟩
theorem k114t : MethOk Tryz.prog (GU H0) 114 (F114v numC numG lBs mBs zBs) := meth_mono (meth_or (u2 k114) k114b) fun d ar x d' h => by
  unfold F114v at h
  split at h
  case h_2 => cases h
  rename_i a b
  simp only [Option.some.injEq, Prod.mk.injEq] at h
  obtain ⟨h, rfl, rfl⟩ := h
  unfold numC at h
  cases ha : eqI a 4 with
  | true =>
    obtain rfl := eqI_of ha
    have h : small b = true := h
    obtain ⟨e1, e2, e3⟩ := limbs_back b.natAbs
    show some (small b, _, d) = _
    rw [h]
    show some (true, AV.tup [intA (decide (b < 0)) (limbs b.natAbs), .int .i64 0], d) = some (true, .tup [.agg [.bool (decide (b < 0)), .lst (u32N ((limbs b.natAbs).map Int.toNat)) ((limbs b.natAbs).map Int.toNat).length false ((limbs b.natAbs).map Int.toNat).isEmpty], .int .i64 0], d)
    rw [e1, e2, e3]
  | false =>
    rw [ha] at h
    have h : (eqI a 7 && (eqI (kindOf d.rows 7 b) 5 && bigQ (slotsO d 7 b))) = true := h
    rw [Bool.and_eq_true] at h
    obtain ⟨h7, h8⟩ := h
    obtain rfl := eqI_of h7
    have hne : (lsO (slotsO d 7 b)).isEmpty = false := by
      rw [Bool.and_eq_true] at h8
      have := h8.2
      unfold bigQ at this
      simp only [Bool.and_eq_true] at this
      have := Nat.le_of_ble_eq_true this.2.2.2
      cases hl : lsO (slotsO d 7 b) with
      | nil => rw [hl] at this; simp at this
      | cons => rfl
    show some (eqI (kindOf d.rows 7 b) 5 && bigQ (slotsO d 7 b), _, d) = _
    rw [h8]
    show _ = some (true, AV.tup [.agg [.bool (gO (slotsO d 7 b)), .lst (u32N (lsO (slotsO d 7 b))) (lsO (slotsO d 7 b)).length false (lsO (slotsO d 7 b)).isEmpty], .int .i64 0], d)
    rw [hne]
theorem k54t : MethOk Tryz.prog (GU H0) 54 (F54v cYs tYs nYs DYs) := meth_mono (u0 k54) fun d ar x d' h => by
  unfold F54v at h
  split at h
  case h_2 => cases h
  rename_i nm
  simp only [Option.some.injEq, Prod.mk.injEq] at h
  obtain ⟨h, rfl, rfl⟩ := h
  unfold cYs at h
  show (match d.names with | [] => some (okName nm, sym0, { d with names := [nm] }) | [k] => some (okName nm && eqNs nm (byt k), sym0, d) | _ => none) = some (true, sym0, DYs d nm)
  unfold DYs
  split at h
  · rename_i he
    rw [Bool.and_true] at h
    simp only [he, h]
  · rename_i k he
    simp only [he, h]
  · rw [Bool.and_false] at h; cases h
theorem k94t : MethOk Tryz.prog (GU H0) 94 (F94v cNs xNs) := meth_mono (u0 k94) fun d ar x d' h => by
  unfold F94v at h
  split at h
  case h_2 => cases h
  rename_i a b
  simp only [Option.some.injEq, Prod.mk.injEq] at h
  obtain ⟨h, rfl, rfl⟩ := h
  unfold cNs at h
  rw [Bool.and_eq_true, Bool.and_eq_true] at h
  obtain ⟨h1, h2, h3⟩ := h
  obtain rfl := eqI_of h1
  obtain rfl := eqI_of h2
  show (match d.names with | [k] => some (true, AV.tup [.str (byt k), .int .i64 0], d) | _ => none) = some (true, .tup [.str (xNs d 6 0), .int .i64 0], d)
  unfold xNs
  split at h3
  · rename_i k he
    simp only [he]
  · cases h3
end Go.Am.Txt
end
